/- mont: Pow, Inv, fold, Reduce. -/
import Derived.Test.YtmegaegedlbckaaNm15
namespace Go.Proofs.Ytmegaegedlbckaa
open Go.RowKit Go.Mv Mvp
attribute [local irreducible] limbs lw mix cw cSub cAdd cMul foldC valFrom beN laid be32 powm montT mstep elN

theorem elpow0 (m : Md) (x n i : Nat) (h : n / 2 ^ i % 2 = 0) : elN m (x ^ (n / 2 ^ (i + 1)) * x ^ (n / 2 ^ (i + 1))) = elN m (x ^ (n / 2 ^ i)) := by
  have := powm_half n i
  rw [h, Nat.two_mul, Nat.add_zero] at this
  rw [← Nat.pow_add, this]
theorem elpow1 (m : Md) (x n i : Nat) (h : n / 2 ^ i % 2 = 1) : elN m (x ^ (n / 2 ^ (i + 1)) * x ^ (n / 2 ^ (i + 1)) * x) = elN m (x ^ (n / 2 ^ i)) := by
  have := powm_half n i
  rw [h, Nat.two_mul] at this
  rw [← Nat.pow_add, ← Nat.pow_succ, this]
theorem elpow_top (m : Md) (x n : Nat) (h : n < B64 ^ 4) : elN m (x ^ (n / 2 ^ 256)) = elN m 1 := by
  rw [Nat.div_eq_of_lt (Nat.lt_of_lt_of_le h (by decide)), Nat.pow_zero]
theorem elpow_all (m : Md) (x n : Nat) : elN m (x ^ (n / 2 ^ 0)) = elN m (x ^ n) := by rw [Nat.pow_zero, Nat.div_one]
theorem eladd0 (m : Md) (n i : Nat) (h : n / 2 ^ i % 2 = 0) : elN m (n / 2 ^ (i + 1) + n / 2 ^ (i + 1)) = elN m (n / 2 ^ i) := by
  have := powm_half n i
  rw [h, Nat.two_mul, Nat.add_zero] at this
  rw [this]
theorem eladd1 (m : Md) (n i : Nat) (h : n / 2 ^ i % 2 = 1) : elN m (n / 2 ^ (i + 1) + n / 2 ^ (i + 1) + 1) = elN m (n / 2 ^ i) := by
  have := powm_half n i
  rw [h, Nat.two_mul] at this
  rw [this]

set_option maxHeartbeats 8000000 in
set_option maxRecDepth 100000 in
theorem MPow_any (m : Md) (gp : Nat) (w : World) (hok : m.Ok) (hpm : Has w gp (mdL m) 68) (x n : Nat) (hn : n < B64 ^ 4) :
    Calls Try.prog 74 #[.pointer (some ⟨gp, 0, none⟩), i4 (elN m x), i4 n] w fun e w' => e = .returned (i4 (elN m (x ^ n))) ∧ Fr Nob w w' := by
  have HOK := Lib.hid hok
  have HPM := Lib.hid hpm
  clear hok hpm
  have HN := Lib.hid hn
  have HTOP := Lib.hid (elpow_top m x n hn)
  clear hn
  have st0 := St.start Nob w
  go_enter Try.func74, Try.ntmps74
  go_wp2_with (with_reducible refine wl_stop (o := ⟨some 4, _, _, _, _, _⟩) ?_)
  refine wl_boxS st0 rfl rfl rfl (cw 4 (elN m x)) rfl ?_
  intro g4 w1 st1
  clear st0
  go_wp2_with (with_reducible refine wl_stop (o := ⟨some 5, _, _, _, _, _⟩) ?_)
  refine wl_boxS st1 rfl rfl rfl (cw 4 n) rfl ?_
  intro g5 w2 st2
  clear st1
  go_wp2_with (with_reducible refine wl_stop (o := ⟨some 6, _, _, _, _, _⟩) ?_)
  refine wl_allocS st2 rfl rfl (z := .agg #[.int .u64 0, .int .u64 0, .int .u64 0, .int .u64 0]) (by kernel_rfl) (cw 4 0) (by rw [cw_zero]; rfl) ?_
  intro g6 w3 st3
  clear st2
  go_wp2_with fail
  refine (MOne_any m gp _ HOK.out (HPM.out.keep st3.fr id)).mono ?_
  rintro e' w4 ⟨rfl, hf4⟩
  have st4 := st3.keep hf4
  clear st3 hf4
  go_wp2_with (with_reducible refine wl_stop (o := ⟨some 7, _, _, _, _, _⟩) ?_)
  refine wl_allocS st4 rfl rfl (z := .agg #[.int .u64 0, .int .u64 0, .int .u64 0, .int .u64 0]) (by kernel_rfl) (cw 4 0) (by rw [cw_zero]; rfl) ?_
  intro g7 w5 st5
  clear st4
  go_wp2_with (with_reducible refine wl_stop (o := ⟨none, _, _, _, _, _⟩) ?_)
  refine wl_storeS st5 3 rfl rfl rfl rfl rfl (by simp only [List.length_append, cw_len]) (by simp only [List.length_append, cw_len]; kernel_rfl) (cw_one _ _) ?_
  intro w6 st6
  clear st5
  go_wp2
  go_loopw [8] (fun i wr => ∃ j : Nat, j ≤ 256 ∧ i = .int .i64 ((j : Int) - 1) ∧ St Nob w wr [(g4, cw 4 (elN m x), 81), (g5, cw 4 n, 66), (g6, cw 4 0, 81), (g7, cw 4 (elN m (x ^ (n / 2 ^ j))), 81)]) (fun i _ => (intOf i + 1).toNat)
  case atStart => exact ⟨256, by omega, rfl, by rw [HTOP.out]; exact st6⟩
  case round =>
    obtain ⟨j, hj, rfl, st⟩ := hrel
    clear st6
    cases j with
    | succ i =>
      rw [show (((i + 1 : Nat) : Int)) - 1 = (i : Int) by omega]
      have hge : (0 : Int) ≤ (i : Int) := by omega
      go_wp2_with (with_reducible refine wl_stop (o := ⟨some 16, _, _, _, _, _⟩) ?_)
      refine wl_loadS st 3 rfl rfl rfl Try.underlying81 rfl (by simp only [List.length_append, cw_len]; kernel_rfl) ?_
      go_wp2_with fail
      refine (MSquare_any m gp _ HOK.out (HPM.out.keep st.fr id) (x ^ (n / 2 ^ (i + 1)))).mono ?_
      rintro e' w7 ⟨rfl, hf7⟩
      have st7 := st.keep hf7
      clear st hf7
      go_wp2_with (with_reducible refine wl_stop (o := ⟨none, _, _, _, _, _⟩) ?_)
      refine wl_storeS st7 3 rfl rfl rfl rfl rfl (by simp only [List.length_append, cw_len]) (by simp only [List.length_append, cw_len]; kernel_rfl) (cw_one _ _) ?_
      intro w8 st8
      clear st7
      go_wp2_with (with_reducible refine wl_stop (o := ⟨some 18, _, _, _, _, _⟩) ?_)
      refine wl_loadS st8 1 rfl rfl rfl Try.underlying66 rfl (by simp only [List.length_append, cw_len]; kernel_rfl) ?_
      go_wp2_with fail
      refine (MBit_any n i _ (by omega)).mono ?_
      rintro e' w9 ⟨rfl, hf9⟩
      have st9 := st8.keep hf9
      clear st8 hf9
      have hbt : n / 2 ^ i % 2 = 0 ∨ n / 2 ^ i % 2 = 1 := by omega
      have HS0 := Lib.hid (elpow0 m x n i)
      have HS1 := Lib.hid (elpow1 m x n i)
      generalize hbb : n / 2 ^ i % 2 = bt at *
      have HBB := Lib.hid hbb
      clear hbb
      rcases hbt with rfl | rfl
      · have hst := st9
        rw [HS0.out (by first | rfl | trivial)] at hst
        clear st9
        go_wp2
        go_roundw
        case rel => exact ⟨i, by omega, rfl, hst⟩
        case measure => simp [intOf]
      · skip
        go_wp2_with (with_reducible refine wl_stop (o := ⟨some 23, _, _, _, _, _⟩) ?_)
        refine wl_loadS st9 3 rfl rfl rfl Try.underlying81 rfl (by simp only [List.length_append, cw_len]; kernel_rfl) ?_
        go_wp2_with (with_reducible refine wl_stop (o := ⟨some 24, _, _, _, _, _⟩) ?_)
        refine wl_loadS st9 0 rfl rfl rfl Try.underlying81 rfl (by simp only [List.length_append, cw_len]; kernel_rfl) ?_
        go_wp2_with fail
        refine (MMulE m gp _ HOK.out (HPM.out.keep st9.fr id) ((x ^ (n / 2 ^ (i + 1))) * (x ^ (n / 2 ^ (i + 1)))) x).mono ?_
        rintro e' w10 ⟨rfl, hf10⟩
        have st10 := st9.keep hf10
        clear st9 hf10
        go_wp2_with (with_reducible refine wl_stop (o := ⟨none, _, _, _, _, _⟩) ?_)
        refine wl_storeS st10 3 rfl rfl rfl rfl rfl (by simp only [List.length_append, cw_len]) (by simp only [List.length_append, cw_len]; kernel_rfl) (cw_one _ _) ?_
        intro w11 st11
        clear st10
        have hst := st11
        rw [HS1.out (by first | rfl | trivial)] at hst
        clear st11
        go_wp2
        go_roundw
        case rel => exact ⟨i, by omega, rfl, hst⟩
        case measure => simp [intOf]
    | zero =>
      rw [show (((0 : Nat) : Int)) - 1 = -1 by omega]
      go_wp2_with (with_reducible refine wl_stop (o := ⟨some 26, _, _, _, _, _⟩) ?_)
      refine wl_loadS st 3 rfl rfl rfl Try.underlying81 rfl (by simp only [List.length_append, cw_len]; kernel_rfl) ?_
      go_wp2_with (with_reducible refine wl_stop (o := ⟨none, _, _, _, _, _⟩) ?_)
      refine wl_storeS st 2 rfl rfl rfl rfl rfl (by simp only [List.length_append, cw_len]) (by simp only [List.length_append, cw_len]; kernel_rfl) (cw_one _ _) ?_
      intro w7 st7
      clear st
      have hr := st7.at 2 rfl
      have hfr := st7.fr
      clear st7
      go_wp2_with fail
      exact bodyPost_ret (results_arr rfl rfl hr Try.underlying81 (by simp only [List.length_append, cw_len]; kernel_rfl)) rfl ⟨by rw [← elpow_all]; rfl, hfr⟩

set_option maxHeartbeats 8000000 in
set_option maxRecDepth 100000 in
theorem MInv_any (m : Md) (gp : Nat) (w : World) (hok : m.Ok) (hpm : Has w gp (mdL m) 68) (x : Nat) :
    Calls Try.prog 53 #[.pointer (some ⟨gp, 0, none⟩), i4 (elN m x)] w fun e w' => e = .returned (i4 (elN m (x ^ (m.M - 2)))) ∧ Fr Nob w w' := by
  have HOK := Lib.hid hok
  have HPM := Lib.hid hpm
  clear hok hpm
  have HM2 := Lib.hid (show m.M - 2 < B64 ^ 4 by have := HOK.out.lt; omega)
  have h2m := fun wx => minus_any m.M 2 wx (by decide)
  rw [neg_words m.M 2 (by have := HOK.out.one; omega), ← small_words 2 (by decide)] at h2m
  have H2M := Lib.hid h2m
  clear h2m
  have st0 := St.start Nob w
  go_enter Try.func53, Try.ntmps53
  go_wp2_with (with_reducible refine wl_stop (o := ⟨some 3, _, _, _, _, _⟩) ?_)
  refine wl_boxS st0 rfl rfl rfl (cw 4 (elN m x)) rfl ?_
  intro g3 w1 st1
  clear st0
  go_wp2_with (with_reducible refine wl_stop (o := ⟨some 4, _, _, _, _, _⟩) ?_)
  refine wl_allocS st1 rfl rfl (z := .agg #[.int .u64 0, .int .u64 0, .int .u64 0, .int .u64 0]) (by kernel_rfl) (cw 4 0) (by rw [cw_zero]; rfl) ?_
  intro g4 w2 st2
  clear st1
  go_wp2_with (with_reducible refine wl_stop (o := ⟨some 11, _, _, _, _, _⟩) ?_)
  refine wl_loadA rfl rfl Try.underlying66 rfl (HPM.out.keep st2.fr id) (cw 4 m.M) (md_M m) (by simp only [List.length_append, cw_len]; kernel_rfl) ?_
  go_wp2_with fail
  refine (H2M.out _).mono ?_
  rintro e' w3 ⟨rfl, hf3⟩
  have st3 := st2.keep hf3
  clear st2 hf3
  go_wp2_with (with_reducible refine wl_stop (o := ⟨some 5, _, _, _, _, _⟩) ?_)
  refine wl_allocS st3 rfl rfl (z := .agg #[.int .u64 0, .int .u64 0, .int .u64 0, .int .u64 0]) (by kernel_rfl) (cw 4 0) (by rw [cw_zero]; rfl) ?_
  intro g5 w4 st4
  clear st3
  go_wp2_with (with_reducible refine wl_stop (o := ⟨none, _, _, _, _, _⟩) ?_)
  refine wl_storeS st4 2 rfl rfl rfl rfl rfl (by simp only [List.length_append, cw_len]) (by simp only [List.length_append, cw_len]; kernel_rfl) (cw_one _ _) ?_
  intro w5 st5
  clear st4
  go_wp2_with (with_reducible refine wl_stop (o := ⟨some 17, _, _, _, _, _⟩) ?_)
  refine wl_loadS st5 0 rfl rfl rfl Try.underlying81 rfl (by simp only [List.length_append, cw_len]; kernel_rfl) ?_
  go_wp2_with (with_reducible refine wl_stop (o := ⟨some 18, _, _, _, _, _⟩) ?_)
  refine wl_loadS st5 2 rfl rfl rfl Try.underlying66 rfl (by simp only [List.length_append, cw_len]; kernel_rfl) ?_
  go_wp2_with fail
  refine (MPow_any m gp _ HOK.out (HPM.out.keep st5.fr id) x (m.M - 2) HM2.out).mono ?_
  rintro e' w6 ⟨rfl, hf6⟩
  have st6 := st5.keep hf6
  clear st5 hf6
  go_wp2_with (with_reducible refine wl_stop (o := ⟨none, _, _, _, _, _⟩) ?_)
  refine wl_storeS st6 1 rfl rfl rfl rfl rfl (by simp only [List.length_append, cw_len]) (by simp only [List.length_append, cw_len]; kernel_rfl) (cw_one _ _) ?_
  intro w7 st7
  clear st6
  have hr := st7.at 1 rfl
  have hfr := st7.fr
  clear st7
  go_wp2_with fail
  exact bodyPost_ret (results_arr rfl rfl hr Try.underlying81 (by simp only [List.length_append, cw_len]; kernel_rfl)) rfl ⟨rfl, hfr⟩

set_option maxHeartbeats 8000000 in
set_option maxRecDepth 100000 in
theorem Mfold_any (m : Md) (gp : Nat) (w : World) (hok : m.Ok) (hpm : Has w gp (mdL m) 68) (a : Option Addr) (n c : Nat) (l : List UInt8) (hb : RdB w a n l) (hn : n ≤ 32) :
    Calls Try.prog 62 #[.pointer (some ⟨gp, 0, none⟩), .slice a n c] w fun e w' => e = .returned (i4 (elN m (beN l))) ∧ Fr Nob w w' := by
  have HOK := Lib.hid hok
  have HPM := Lib.hid hpm
  clear hok hpm
  have HN := Lib.hid hn
  have HBB := Lib.hid hb
  have hbl := beN_le32 l (by rw [hb.len]; exact hn)
  have HBL := Lib.hid hbl
  have HTOP := Lib.hid (show elN m (beN l / 2 ^ 256) = 0 by rw [Nat.div_eq_of_lt (Nat.lt_of_lt_of_le hbl (by decide)), el_zero])
  have HALL := Lib.hid (show elN m (beN l / 2 ^ 0) = elN m (beN l) by rw [Nat.pow_zero, Nat.div_one])
  clear hb hbl
  clear hn
  have st0 := St.start Nob w
  go_enter Try.func62, Try.ntmps62
  go_wp2_with (with_reducible refine wl_stop (o := ⟨some 4, _, _, _, _, _⟩) ?_)
  refine wl_allocS st0 rfl rfl (z := .agg #[.int .u64 0, .int .u64 0, .int .u64 0, .int .u64 0]) (by kernel_rfl) (cw 4 0) (by rw [cw_zero]; rfl) ?_
  intro g4 w1 st1
  clear st0
  go_wp2_with fail
  refine (FromBytes_any a n c l _ (HBB.out.still st1.fr) HN.out).mono ?_
  rintro e' w2 ⟨rfl, hf2⟩
  have st2 := st1.keep hf2
  clear st1 hf2
  go_wp2_with (with_reducible refine wl_stop (o := ⟨some 5, _, _, _, _, _⟩) ?_)
  refine wl_allocS st2 rfl rfl (z := .agg #[.int .u64 0, .int .u64 0, .int .u64 0, .int .u64 0]) (by kernel_rfl) (cw 4 0) (by rw [cw_zero]; rfl) ?_
  intro g5 w3 st3
  clear st2
  go_wp2_with (with_reducible refine wl_stop (o := ⟨none, _, _, _, _, _⟩) ?_)
  refine wl_storeS st3 1 rfl rfl rfl rfl rfl (by simp only [List.length_append, cw_len]) (by simp only [List.length_append, cw_len]; kernel_rfl) (cw_one _ _) ?_
  intro w4 st4
  clear st3
  go_wp2_with fail
  refine wp_region_noPanic ?_
  refine wp_region_plan (fun wx => St Nob w wx [(g4, cw 4 0, 81), (g5, cw 4 (beN l), 66)]) 5 (.t 0 (.w 1 (.w 2 (.w 3 (.t 4 (.m 5 .nil)))))) (by kernel_rfl) (by kernel_rfl) st4.drew (fun _ _ _ _ _ h => h) ?_
  have hd4 := st4.drew
  clear st4
  refine plan_arr rfl rfl rfl rfl (cw 4 (beN l)) (fun wx hS => St.rangeL hS 1 rfl 0 _ (by rw [List.drop_zero, List.take_of_length_le (Nat.le_refl _)])) Try.underlying66 rfl (by simp only [List.length_append, cw_len]; kernel_rfl) ?_
  try simp only [Act.put, List.setIfInBounds_toArray, List.set_cons_zero, List.set_cons_succ]
  refine plan_w (v := ?_) rfl rfl (fun wx => ?_) ?_
  rotate_left 1
  · (go_simp; with_reducible rfl)
  try simp only [Act.put, List.setIfInBounds_toArray, List.set_cons_zero, List.set_cons_succ]
  refine plan_w (v := ?_) rfl rfl (fun wx => ?_) ?_
  rotate_left 1
  · (go_simp; with_reducible rfl)
  try simp only [Act.put, List.setIfInBounds_toArray, List.set_cons_zero, List.set_cons_succ]
  refine plan_w (v := ?_) rfl rfl (fun wx => ?_) ?_
  rotate_left 1
  · (go_simp; with_reducible rfl)
  try simp only [Act.put, List.setIfInBounds_toArray, List.set_cons_zero, List.set_cons_succ]
  refine plan_arr rfl rfl rfl rfl (cw 4 m.M) (fun wx hS => (HPM.out.keep (St.fr hS) id).range 0 _ (md_M m)) Try.underlying66 rfl (by simp only [List.length_append, cw_len]; kernel_rfl) ?_
  try simp only [Act.put, List.setIfInBounds_toArray, List.set_cons_zero, List.set_cons_succ]
  refine plan_m rfl rfl ?_
  go_simp
  refine (MLess_any (beN l) m.M _ HBL.out HOK.out.lt).mono ?_
  rintro e' w5 ⟨rfl, hf5⟩
  have st5 := hd4.keep hf5
  clear hf5
  clear hd4
  try simp only [Act.put, List.setIfInBounds_toArray, List.set_cons_zero, List.set_cons_succ]
  refine plan_end ?_
  refine NoPanic.normal ?_
  by_cases hlt : beN l < m.M
  · have hd := decide_eq_true hlt
    have HLT := Lib.hid hlt
    rw [hd]
    clear hd hlt
    go_wp2_with (with_reducible refine wl_stop (o := ⟨some 18, _, _, _, _, _⟩) ?_)
    refine wl_loadS st5 1 rfl rfl rfl Try.underlying66 rfl (by simp only [List.length_append, cw_len]; kernel_rfl) ?_
    go_wp2_with fail
    refine (MTo_any m gp _ HOK.out (HPM.out.keep st5.fr id) (beN l) HBL.out).mono ?_
    rintro e' w6 ⟨rfl, hf6⟩
    have st6 := st5.keep hf6
    clear st5 hf6
    go_wp2_with (with_reducible refine wl_stop (o := ⟨none, _, _, _, _, _⟩) ?_)
    refine wl_storeS st6 0 rfl rfl rfl rfl rfl (by simp only [List.length_append, cw_len]) (by simp only [List.length_append, cw_len]; kernel_rfl) (cw_one _ _) ?_
    intro w7 st7
    clear st6
    have hr := st7.at 0 rfl
    have hfr := st7.fr
    clear st7
    go_wp2_with fail
    exact bodyPost_ret (results_arr rfl rfl hr Try.underlying81 (by simp only [List.length_append, cw_len]; kernel_rfl)) rfl ⟨rfl, hfr⟩
  · have hd := decide_eq_false hlt
    rw [hd]
    clear hd hlt
    go_wp2_with (with_reducible refine wl_stop (o := ⟨some 6, _, _, _, _, _⟩) ?_)
    refine wl_allocS st5 rfl rfl (z := .agg #[.int .u64 0, .int .u64 0, .int .u64 0, .int .u64 0]) (by kernel_rfl) (cw 4 0) (by rw [cw_zero]; rfl) ?_
    intro g6 w6 st6
    clear st5
    go_wp2_with fail
    refine (MOne_any m gp _ HOK.out (HPM.out.keep st6.fr id)).mono ?_
    rintro e' w7 ⟨rfl, hf7⟩
    have st7 := st6.keep hf7
    clear st6 hf7
    go_wp2_with (with_reducible refine wl_stop (o := ⟨some 7, _, _, _, _, _⟩) ?_)
    refine wl_allocS st7 rfl rfl (z := .agg #[.int .u64 0, .int .u64 0, .int .u64 0, .int .u64 0]) (by kernel_rfl) (cw 4 0) (by rw [cw_zero]; rfl) ?_
    intro g7 w8 st8
    clear st7
    go_wp2_with (with_reducible refine wl_stop (o := ⟨none, _, _, _, _, _⟩) ?_)
    refine wl_storeS st8 3 rfl rfl rfl rfl rfl (by simp only [List.length_append, cw_len]) (by simp only [List.length_append, cw_len]; kernel_rfl) (cw_one _ _) ?_
    intro w9 st9
    clear st8
    go_wp2
    go_loopw [8] (fun i wr => ∃ j : Nat, j ≤ 256 ∧ i = .int .i64 ((j : Int) - 1) ∧ St Nob w wr [(g4, cw 4 0, 81), (g5, cw 4 (beN l), 66), (g6, cw 4 (elN m (beN l / 2 ^ j)), 81), (g7, cw 4 (elN m 1), 81)]) (fun i _ => (intOf i + 1).toNat)
    case atStart => exact ⟨256, by omega, rfl, by rw [HTOP.out]; exact st9⟩
    case round =>
      obtain ⟨j, hj, rfl, st⟩ := hrel
      clear st9
      cases j with
      | succ i =>
        rw [show (((i + 1 : Nat) : Int)) - 1 = (i : Int) by omega]
        have hge : (0 : Int) ≤ (i : Int) := by omega
        go_wp2_with (with_reducible refine wl_stop (o := ⟨some 27, _, _, _, _, _⟩) ?_)
        refine wl_loadS st 2 rfl rfl rfl Try.underlying81 rfl (by simp only [List.length_append, cw_len]; kernel_rfl) ?_
        go_wp2_with (with_reducible refine wl_stop (o := ⟨some 28, _, _, _, _, _⟩) ?_)
        refine wl_loadS st 2 rfl rfl rfl Try.underlying81 rfl (by simp only [List.length_append, cw_len]; kernel_rfl) ?_
        go_wp2_with fail
        refine (MAdd_any m gp _ HOK.out (HPM.out.keep st.fr id) (beN l / 2 ^ (i + 1)) (beN l / 2 ^ (i + 1))).mono ?_
        rintro e' w10 ⟨rfl, hf10⟩
        have st10 := st.keep hf10
        clear st hf10
        go_wp2_with (with_reducible refine wl_stop (o := ⟨none, _, _, _, _, _⟩) ?_)
        refine wl_storeS st10 2 rfl rfl rfl rfl rfl (by simp only [List.length_append, cw_len]) (by simp only [List.length_append, cw_len]; kernel_rfl) (cw_one _ _) ?_
        intro w11 st11
        clear st10
        go_wp2_with (with_reducible refine wl_stop (o := ⟨some 30, _, _, _, _, _⟩) ?_)
        refine wl_loadS st11 1 rfl rfl rfl Try.underlying66 rfl (by simp only [List.length_append, cw_len]; kernel_rfl) ?_
        go_wp2_with fail
        refine (MBit_any (beN l) i _ (by omega)).mono ?_
        rintro e' w12 ⟨rfl, hf12⟩
        have st12 := st11.keep hf12
        clear st11 hf12
        have hbt : beN l / 2 ^ i % 2 = 0 ∨ beN l / 2 ^ i % 2 = 1 := by omega
        have HS0 := Lib.hid (eladd0 m (beN l) i)
        have HS1 := Lib.hid (eladd1 m (beN l) i)
        generalize hbb : beN l / 2 ^ i % 2 = bt at *
        have HBT := Lib.hid hbb
        clear hbb
        rcases hbt with rfl | rfl
        · have hst := st12
          rw [HS0.out (by first | rfl | trivial)] at hst
          clear st12
          go_wp2
          go_roundw
          case rel => exact ⟨i, by omega, rfl, hst⟩
          case measure => simp [intOf]
        · skip
          go_wp2_with (with_reducible refine wl_stop (o := ⟨some 35, _, _, _, _, _⟩) ?_)
          refine wl_loadS st12 2 rfl rfl rfl Try.underlying81 rfl (by simp only [List.length_append, cw_len]; kernel_rfl) ?_
          go_wp2_with (with_reducible refine wl_stop (o := ⟨some 36, _, _, _, _, _⟩) ?_)
          refine wl_loadS st12 3 rfl rfl rfl Try.underlying81 rfl (by simp only [List.length_append, cw_len]; kernel_rfl) ?_
          go_wp2_with fail
          refine (MAdd_any m gp _ HOK.out (HPM.out.keep st12.fr id) ((beN l / 2 ^ (i + 1)) + (beN l / 2 ^ (i + 1))) 1).mono ?_
          rintro e' w13 ⟨rfl, hf13⟩
          have st13 := st12.keep hf13
          clear st12 hf13
          go_wp2_with (with_reducible refine wl_stop (o := ⟨none, _, _, _, _, _⟩) ?_)
          refine wl_storeS st13 2 rfl rfl rfl rfl rfl (by simp only [List.length_append, cw_len]) (by simp only [List.length_append, cw_len]; kernel_rfl) (cw_one _ _) ?_
          intro w14 st14
          clear st13
          have hst := st14
          rw [HS1.out (by first | rfl | trivial)] at hst
          clear st14
          go_wp2
          go_roundw
          case rel => exact ⟨i, by omega, rfl, hst⟩
          case measure => simp [intOf]
      | zero =>
        rw [show (((0 : Nat) : Int)) - 1 = -1 by omega]
        go_wp2_with (with_reducible refine wl_stop (o := ⟨some 38, _, _, _, _, _⟩) ?_)
        refine wl_loadS st 2 rfl rfl rfl Try.underlying81 rfl (by simp only [List.length_append, cw_len]; kernel_rfl) ?_
        go_wp2_with (with_reducible refine wl_stop (o := ⟨none, _, _, _, _, _⟩) ?_)
        refine wl_storeS st 0 rfl rfl rfl rfl rfl (by simp only [List.length_append, cw_len]) (by simp only [List.length_append, cw_len]; kernel_rfl) (cw_one _ _) ?_
        intro w10 st10
        clear st
        have hr := st10.at 0 rfl
        have hfr := st10.fr
        clear st10
        go_wp2_with fail
        exact bodyPost_ret (results_arr rfl rfl hr Try.underlying81 (by simp only [List.length_append, cw_len]; kernel_rfl)) rfl ⟨rfl, hfr⟩
end Go.Proofs.Ytmegaegedlbckaa
