/- mont: Pow, Inv, fold, Reduce; mont: Reduce; mont.Of; num.Modulus, num.Reduce; the law's told; append onto an owned slice, once more: what lay ahead of the new cells is kept, in the old block too; An empty slice literal; num.read: lists of numbers; num.reckon, over an operation's contract; num: Add, Sub, Mul, Inv; Arrays of words compared; a number shifted down; bits laid one by one; mont.Int.shift by two bits; mont: Sqrt; num.Sqrt's operation. -/
import Derived.Test.YtmegaegedlbckaaMgNumLawsProof3
import Derived.Test.YtmegaegedlbckaaMgNumLawsProof2
import Derived.Test.YtmegaegedlbckaaMgNumLawsProof1
import Derived.ChangeKeysEq
import Derived.StillTailTactics
namespace Go.Proofs.Ytmegaegedlbckaa
open Go.RowKit Go.Mv Mvp
attribute [local irreducible] limbs lw mix cw cSub cAdd cMul foldC valFrom beN laid be32 powm montT mstep elN

theorem elpow0 (m : Md) (x n i : Nat) (h : n / 2 ^ i % 2 = 0) : elN m (x ^ (n / 2 ^ (i + 1)) * x ^ (n / 2 ^ (i + 1))) = elN m (x ^ (n / 2 ^ i)) := by
  have := powm_half n i
  rw [h, Nat.two_mul, Nat.add_zero] at this
  rw [← Nat.pow_add, this]
theorem elpow1 (m : Md) (x n i : Nat) (h : n / 2 ^ i % 2 = 1) : elN m (x ^ (n / 2 ^ (i + 1)) * x ^ (n / 2 ^ (i + 1)) * x) = elN m (x ^ (n / 2 ^ i)) := by
  have := powm_half n i
  rw [h, Nat.two_mul] at this
  rw [← Nat.pow_add, ← Nat.pow_succ, this]
theorem elpow_top (m : Md) (x n : Nat) (h : n < B64 ^ 4) : elN m (x ^ (n / 2 ^ 256)) = elN m 1 := by
  rw [Nat.div_eq_of_lt (Nat.lt_of_lt_of_le h (by decide)), Nat.pow_zero]
theorem elpow_all (m : Md) (x n : Nat) : elN m (x ^ (n / 2 ^ 0)) = elN m (x ^ n) := by rw [Nat.pow_zero, Nat.div_one]
theorem eladd0 (m : Md) (n i : Nat) (h : n / 2 ^ i % 2 = 0) : elN m (n / 2 ^ (i + 1) + n / 2 ^ (i + 1)) = elN m (n / 2 ^ i) := by
  have := powm_half n i
  rw [h, Nat.two_mul, Nat.add_zero] at this
  rw [this]
theorem eladd1 (m : Md) (n i : Nat) (h : n / 2 ^ i % 2 = 1) : elN m (n / 2 ^ (i + 1) + n / 2 ^ (i + 1) + 1) = elN m (n / 2 ^ i) := by
  have := powm_half n i
  rw [h, Nat.two_mul] at this
  rw [this]

set_option maxHeartbeats 8000000 in
set_option maxRecDepth 100000 in
theorem MPow_any (m : Md) (gp : Nat) (w : World) (hok : m.Ok) (hpm : Has w gp (mdL m) 68) (x n : Nat) (hn : n < B64 ^ 4) :
    Calls Try.prog 74 #[.pointer (some ⟨gp, 0, none⟩), i4 (elN m x), i4 n] w fun e w' => e = .returned (i4 (elN m (x ^ n))) ∧ Fr Nob w w' := by
  have HOK := Lib.hid hok
  have HPM := Lib.hid hpm
  clear hok hpm
  have HN := Lib.hid hn
  have HTOP := Lib.hid (elpow_top m x n hn)
  clear hn
  have st0 := St.start Nob w
  go_enter Try.func74, Try.ntmps74
  go_wp2_with (with_reducible refine wl_stop (o := ⟨some 4, _, _, _, _, _⟩) ?_)
  refine wl_boxS st0 rfl rfl rfl (cw 4 (elN m x)) rfl ?_
  intro g4 w1 st1
  clear st0
  go_wp2_with (with_reducible refine wl_stop (o := ⟨some 5, _, _, _, _, _⟩) ?_)
  refine wl_boxS st1 rfl rfl rfl (cw 4 n) rfl ?_
  intro g5 w2 st2
  clear st1
  go_wp2_with (with_reducible refine wl_stop (o := ⟨some 6, _, _, _, _, _⟩) ?_)
  refine wl_allocS st2 rfl rfl (z := .agg #[.int .u64 0, .int .u64 0, .int .u64 0, .int .u64 0]) (by kernel_rfl) (cw 4 0) (by rw [cw_zero]; rfl) ?_
  intro g6 w3 st3
  clear st2
  go_wp2_with fail
  refine (MOne_any m gp _ HOK.out (HPM.out.keep st3.fr id)).mono ?_
  rintro e' w4 ⟨rfl, hf4⟩
  have st4 := st3.keep hf4
  clear st3 hf4
  go_wp2_with (with_reducible refine wl_stop (o := ⟨some 7, _, _, _, _, _⟩) ?_)
  refine wl_allocS st4 rfl rfl (z := .agg #[.int .u64 0, .int .u64 0, .int .u64 0, .int .u64 0]) (by kernel_rfl) (cw 4 0) (by rw [cw_zero]; rfl) ?_
  intro g7 w5 st5
  clear st4
  go_wp2_with (with_reducible refine wl_stop (o := ⟨none, _, _, _, _, _⟩) ?_)
  refine wl_storeS st5 3 rfl rfl rfl rfl rfl (by first | (simp only [cw_len]; done) | (simp only [List.length_append, cw_len]; done)) (by first | (rw [cw_len]; kernel_rfl) | (simp only [List.length_append, cw_len]; kernel_rfl)) (cw_one _ _) ?_
  intro w6 st6
  clear st5
  go_wp2
  go_loopw [8] (fun i wr => ∃ j : Nat, j ≤ 256 ∧ i = .int .i64 ((j : Int) - 1) ∧ St Nob w wr [(g4, cw 4 (elN m x), 81), (g5, cw 4 n, 66), (g6, cw 4 0, 81), (g7, cw 4 (elN m (x ^ (n / 2 ^ j))), 81)]) (fun i _ => (intOf i + 1).toNat)
  case atStart => exact ⟨256, by omega, rfl, by rw [HTOP.out]; exact st6⟩
  case round =>
    obtain ⟨j, hj, rfl, st⟩ := hrel
    clear st6
    cases j with
    | succ i =>
      rw [show (((i + 1 : Nat) : Int)) - 1 = (i : Int) by omega]
      have hge : (0 : Int) ≤ (i : Int) := by omega
      go_wp2_with (with_reducible refine wl_stop (o := ⟨some 16, _, _, _, _, _⟩) ?_)
      refine wl_loadS st 3 rfl rfl rfl Try.underlying81 rfl (by first | (rw [cw_len]; kernel_rfl) | (simp only [List.length_append, cw_len]; kernel_rfl)) ?_
      go_wp2_with fail
      refine (MSquare_any m gp _ HOK.out (HPM.out.keep st.fr id) (x ^ (n / 2 ^ (i + 1)))).mono ?_
      rintro e' w7 ⟨rfl, hf7⟩
      have st7 := st.keep hf7
      clear st hf7
      go_wp2_with (with_reducible refine wl_stop (o := ⟨none, _, _, _, _, _⟩) ?_)
      refine wl_storeS st7 3 rfl rfl rfl rfl rfl (by first | (simp only [cw_len]; done) | (simp only [List.length_append, cw_len]; done)) (by first | (rw [cw_len]; kernel_rfl) | (simp only [List.length_append, cw_len]; kernel_rfl)) (cw_one _ _) ?_
      intro w8 st8
      clear st7
      go_wp2_with (with_reducible refine wl_stop (o := ⟨some 18, _, _, _, _, _⟩) ?_)
      refine wl_loadS st8 1 rfl rfl rfl Try.underlying66 rfl (by first | (rw [cw_len]; kernel_rfl) | (simp only [List.length_append, cw_len]; kernel_rfl)) ?_
      go_wp2_with fail
      refine (MBit_any n i _ (by omega)).mono ?_
      rintro e' w9 ⟨rfl, hf9⟩
      have st9 := st8.keep hf9
      clear st8 hf9
      have hbt : n / 2 ^ i % 2 = 0 ∨ n / 2 ^ i % 2 = 1 := by omega
      have HS0 := Lib.hid (elpow0 m x n i)
      have HS1 := Lib.hid (elpow1 m x n i)
      generalize hbb : n / 2 ^ i % 2 = bt at *
      have HBB := Lib.hid hbb
      clear hbb
      rcases hbt with rfl | rfl
      · have hst := st9
        rw [HS0.out (by first | rfl | trivial)] at hst
        clear st9
        go_wp2
        go_roundw
        case rel => exact ⟨i, by omega, rfl, hst⟩
        case measure => simp [intOf]
      · skip
        go_wp2_with (with_reducible refine wl_stop (o := ⟨some 23, _, _, _, _, _⟩) ?_)
        refine wl_loadS st9 3 rfl rfl rfl Try.underlying81 rfl (by first | (rw [cw_len]; kernel_rfl) | (simp only [List.length_append, cw_len]; kernel_rfl)) ?_
        go_wp2_with (with_reducible refine wl_stop (o := ⟨some 24, _, _, _, _, _⟩) ?_)
        refine wl_loadS st9 0 rfl rfl rfl Try.underlying81 rfl (by first | (rw [cw_len]; kernel_rfl) | (simp only [List.length_append, cw_len]; kernel_rfl)) ?_
        go_wp2_with fail
        refine (MMulE m gp _ HOK.out (HPM.out.keep st9.fr id) ((x ^ (n / 2 ^ (i + 1))) * (x ^ (n / 2 ^ (i + 1)))) x).mono ?_
        rintro e' w10 ⟨rfl, hf10⟩
        have st10 := st9.keep hf10
        clear st9 hf10
        go_wp2_with (with_reducible refine wl_stop (o := ⟨none, _, _, _, _, _⟩) ?_)
        refine wl_storeS st10 3 rfl rfl rfl rfl rfl (by first | (simp only [cw_len]; done) | (simp only [List.length_append, cw_len]; done)) (by first | (rw [cw_len]; kernel_rfl) | (simp only [List.length_append, cw_len]; kernel_rfl)) (cw_one _ _) ?_
        intro w11 st11
        clear st10
        have hst := st11
        rw [HS1.out (by first | rfl | trivial)] at hst
        clear st11
        go_wp2
        go_roundw
        case rel => exact ⟨i, by omega, rfl, hst⟩
        case measure => simp [intOf]
    | zero =>
      rw [show (((0 : Nat) : Int)) - 1 = -1 by omega]
      go_wp2_with (with_reducible refine wl_stop (o := ⟨some 26, _, _, _, _, _⟩) ?_)
      refine wl_loadS st 3 rfl rfl rfl Try.underlying81 rfl (by first | (rw [cw_len]; kernel_rfl) | (simp only [List.length_append, cw_len]; kernel_rfl)) ?_
      go_wp2_with (with_reducible refine wl_stop (o := ⟨none, _, _, _, _, _⟩) ?_)
      refine wl_storeS st 2 rfl rfl rfl rfl rfl (by first | (simp only [cw_len]; done) | (simp only [List.length_append, cw_len]; done)) (by first | (rw [cw_len]; kernel_rfl) | (simp only [List.length_append, cw_len]; kernel_rfl)) (cw_one _ _) ?_
      intro w7 st7
      clear st
      have hr := st7.at 2 rfl
      have hfr := st7.fr
      clear st7
      go_wp2_with fail
      exact bodyPost_ret (results_arr rfl rfl hr Try.underlying81 (by first | (rw [cw_len]; kernel_rfl) | (simp only [List.length_append, cw_len]; kernel_rfl))) rfl ⟨by rw [← elpow_all]; rfl, hfr⟩

set_option maxHeartbeats 8000000 in
set_option maxRecDepth 100000 in
theorem MInv_any (m : Md) (gp : Nat) (w : World) (hok : m.Ok) (hpm : Has w gp (mdL m) 68) (x : Nat) :
    Calls Try.prog 53 #[.pointer (some ⟨gp, 0, none⟩), i4 (elN m x)] w fun e w' => e = .returned (i4 (elN m (x ^ (m.M - 2)))) ∧ Fr Nob w w' := by
  have HOK := Lib.hid hok
  have HPM := Lib.hid hpm
  clear hok hpm
  have HM2 := Lib.hid (show m.M - 2 < B64 ^ 4 by have := HOK.out.lt; omega)
  have h2m := fun wx => minus_any m.M 2 wx (by decide)
  rw [neg_words m.M 2 (by have := HOK.out.one; omega), ← small_words 2 (by decide)] at h2m
  have H2M := Lib.hid h2m
  clear h2m
  have st0 := St.start Nob w
  go_enter Try.func53, Try.ntmps53
  go_wp2_with (with_reducible refine wl_stop (o := ⟨some 3, _, _, _, _, _⟩) ?_)
  refine wl_boxS st0 rfl rfl rfl (cw 4 (elN m x)) rfl ?_
  intro g3 w1 st1
  clear st0
  go_wp2_with (with_reducible refine wl_stop (o := ⟨some 4, _, _, _, _, _⟩) ?_)
  refine wl_allocS st1 rfl rfl (z := .agg #[.int .u64 0, .int .u64 0, .int .u64 0, .int .u64 0]) (by kernel_rfl) (cw 4 0) (by rw [cw_zero]; rfl) ?_
  intro g4 w2 st2
  clear st1
  go_wp2_with (with_reducible refine wl_stop (o := ⟨some 11, _, _, _, _, _⟩) ?_)
  refine wl_loadA rfl rfl Try.underlying66 rfl (HPM.out.keep st2.fr id) (cw 4 m.M) (md_M m) (by first | (rw [cw_len]; kernel_rfl) | (simp only [List.length_append, cw_len]; kernel_rfl)) ?_
  go_wp2_with fail
  refine (H2M.out _).mono ?_
  rintro e' w3 ⟨rfl, hf3⟩
  have st3 := st2.keep hf3
  clear st2 hf3
  go_wp2_with (with_reducible refine wl_stop (o := ⟨some 5, _, _, _, _, _⟩) ?_)
  refine wl_allocS st3 rfl rfl (z := .agg #[.int .u64 0, .int .u64 0, .int .u64 0, .int .u64 0]) (by kernel_rfl) (cw 4 0) (by rw [cw_zero]; rfl) ?_
  intro g5 w4 st4
  clear st3
  go_wp2_with (with_reducible refine wl_stop (o := ⟨none, _, _, _, _, _⟩) ?_)
  refine wl_storeS st4 2 rfl rfl rfl rfl rfl (by first | (simp only [cw_len]; done) | (simp only [List.length_append, cw_len]; done)) (by first | (rw [cw_len]; kernel_rfl) | (simp only [List.length_append, cw_len]; kernel_rfl)) (cw_one _ _) ?_
  intro w5 st5
  clear st4
  go_wp2_with (with_reducible refine wl_stop (o := ⟨some 17, _, _, _, _, _⟩) ?_)
  refine wl_loadS st5 0 rfl rfl rfl Try.underlying81 rfl (by first | (rw [cw_len]; kernel_rfl) | (simp only [List.length_append, cw_len]; kernel_rfl)) ?_
  go_wp2_with (with_reducible refine wl_stop (o := ⟨some 18, _, _, _, _, _⟩) ?_)
  refine wl_loadS st5 2 rfl rfl rfl Try.underlying66 rfl (by first | (rw [cw_len]; kernel_rfl) | (simp only [List.length_append, cw_len]; kernel_rfl)) ?_
  go_wp2_with fail
  refine (MPow_any m gp _ HOK.out (HPM.out.keep st5.fr id) x (m.M - 2) HM2.out).mono ?_
  rintro e' w6 ⟨rfl, hf6⟩
  have st6 := st5.keep hf6
  clear st5 hf6
  go_wp2_with (with_reducible refine wl_stop (o := ⟨none, _, _, _, _, _⟩) ?_)
  refine wl_storeS st6 1 rfl rfl rfl rfl rfl (by first | (simp only [cw_len]; done) | (simp only [List.length_append, cw_len]; done)) (by first | (rw [cw_len]; kernel_rfl) | (simp only [List.length_append, cw_len]; kernel_rfl)) (cw_one _ _) ?_
  intro w7 st7
  clear st6
  have hr := st7.at 1 rfl
  have hfr := st7.fr
  clear st7
  go_wp2_with fail
  exact bodyPost_ret (results_arr rfl rfl hr Try.underlying81 (by first | (rw [cw_len]; kernel_rfl) | (simp only [List.length_append, cw_len]; kernel_rfl))) rfl ⟨rfl, hfr⟩

set_option maxHeartbeats 8000000 in
set_option maxRecDepth 100000 in
theorem Mfold_any (m : Md) (gp : Nat) (w : World) (hok : m.Ok) (hpm : Has w gp (mdL m) 68) (a : Option Addr) (n c : Nat) (l : List UInt8) (hb : RdB w a n l) (hn : n ≤ 32) :
    Calls Try.prog 62 #[.pointer (some ⟨gp, 0, none⟩), .slice a n c] w fun e w' => e = .returned (i4 (elN m (beN l))) ∧ Fr Nob w w' := by
  have HOK := Lib.hid hok
  have HPM := Lib.hid hpm
  clear hok hpm
  have HN := Lib.hid hn
  have HBB := Lib.hid hb
  have hbl := beN_le32 l (by rw [hb.len]; exact hn)
  have HBL := Lib.hid hbl
  have HTOP := Lib.hid (show elN m (beN l / 2 ^ 256) = 0 by rw [Nat.div_eq_of_lt (Nat.lt_of_lt_of_le hbl (by decide)), el_zero])
  have HALL := Lib.hid (show elN m (beN l / 2 ^ 0) = elN m (beN l) by rw [Nat.pow_zero, Nat.div_one])
  clear hb hbl
  clear hn
  have st0 := St.start Nob w
  go_enter Try.func62, Try.ntmps62
  go_wp2_with (with_reducible refine wl_stop (o := ⟨some 4, _, _, _, _, _⟩) ?_)
  refine wl_allocS st0 rfl rfl (z := .agg #[.int .u64 0, .int .u64 0, .int .u64 0, .int .u64 0]) (by kernel_rfl) (cw 4 0) (by rw [cw_zero]; rfl) ?_
  intro g4 w1 st1
  clear st0
  go_wp2_with fail
  refine (FromBytes_any a n c l _ (HBB.out.still st1.fr) HN.out).mono ?_
  rintro e' w2 ⟨rfl, hf2⟩
  have st2 := st1.keep hf2
  clear st1 hf2
  go_wp2_with (with_reducible refine wl_stop (o := ⟨some 5, _, _, _, _, _⟩) ?_)
  refine wl_allocS st2 rfl rfl (z := .agg #[.int .u64 0, .int .u64 0, .int .u64 0, .int .u64 0]) (by kernel_rfl) (cw 4 0) (by rw [cw_zero]; rfl) ?_
  intro g5 w3 st3
  clear st2
  go_wp2_with (with_reducible refine wl_stop (o := ⟨none, _, _, _, _, _⟩) ?_)
  refine wl_storeS st3 1 rfl rfl rfl rfl rfl (by first | (simp only [cw_len]; done) | (simp only [List.length_append, cw_len]; done)) (by first | (rw [cw_len]; kernel_rfl) | (simp only [List.length_append, cw_len]; kernel_rfl)) (cw_one _ _) ?_
  intro w4 st4
  clear st3
  go_wp2_with fail
  refine wp_region_noPanic ?_
  refine wp_region_plan (fun wx => St Nob w wx [(g4, cw 4 0, 81), (g5, cw 4 (beN l), 66)]) 5 (.t 0 (.w 1 (.w 2 (.w 3 (.t 4 (.m 5 .nil)))))) (by kernel_rfl) (by kernel_rfl) st4.drew (fun _ _ _ _ _ h => h) ?_
  have hd4 := st4.drew
  clear st4
  refine plan_arr rfl rfl rfl rfl (cw 4 (beN l)) (fun wx hS => St.rangeL hS 1 rfl 0 _ (by rw [List.drop_zero, List.take_of_length_le (Nat.le_refl _)])) Try.underlying66 rfl (by first | (rw [cw_len]; kernel_rfl) | (simp only [List.length_append, cw_len]; kernel_rfl)) ?_
  try simp only [Act.put, List.setIfInBounds_toArray, List.set_cons_zero, List.set_cons_succ]
  refine plan_w (v := ?_) rfl rfl (fun wx => ?_) ?_
  rotate_left 1
  · (go_simp; with_reducible rfl)
  try simp only [Act.put, List.setIfInBounds_toArray, List.set_cons_zero, List.set_cons_succ]
  refine plan_w (v := ?_) rfl rfl (fun wx => ?_) ?_
  rotate_left 1
  · (go_simp; with_reducible rfl)
  try simp only [Act.put, List.setIfInBounds_toArray, List.set_cons_zero, List.set_cons_succ]
  refine plan_w (v := ?_) rfl rfl (fun wx => ?_) ?_
  rotate_left 1
  · (go_simp; with_reducible rfl)
  try simp only [Act.put, List.setIfInBounds_toArray, List.set_cons_zero, List.set_cons_succ]
  refine plan_arr rfl rfl rfl rfl (cw 4 m.M) (fun wx hS => (HPM.out.keep (St.fr hS) id).range 0 _ (md_M m)) Try.underlying66 rfl (by first | (rw [cw_len]; kernel_rfl) | (simp only [List.length_append, cw_len]; kernel_rfl)) ?_
  try simp only [Act.put, List.setIfInBounds_toArray, List.set_cons_zero, List.set_cons_succ]
  refine plan_m rfl rfl ?_
  go_simp
  refine (MLess_any (beN l) m.M _ HBL.out HOK.out.lt).mono ?_
  rintro e' w5 ⟨rfl, hf5⟩
  have st5 := hd4.keep hf5
  clear hf5
  clear hd4
  try simp only [Act.put, List.setIfInBounds_toArray, List.set_cons_zero, List.set_cons_succ]
  refine plan_end ?_
  refine NoPanic.normal ?_
  by_cases hlt : beN l < m.M
  · have hd := decide_eq_true hlt
    have HLT := Lib.hid hlt
    rw [hd]
    clear hd hlt
    go_wp2_with (with_reducible refine wl_stop (o := ⟨some 18, _, _, _, _, _⟩) ?_)
    refine wl_loadS st5 1 rfl rfl rfl Try.underlying66 rfl (by first | (rw [cw_len]; kernel_rfl) | (simp only [List.length_append, cw_len]; kernel_rfl)) ?_
    go_wp2_with fail
    refine (MTo_any m gp _ HOK.out (HPM.out.keep st5.fr id) (beN l) HBL.out).mono ?_
    rintro e' w6 ⟨rfl, hf6⟩
    have st6 := st5.keep hf6
    clear st5 hf6
    go_wp2_with (with_reducible refine wl_stop (o := ⟨none, _, _, _, _, _⟩) ?_)
    refine wl_storeS st6 0 rfl rfl rfl rfl rfl (by first | (simp only [cw_len]; done) | (simp only [List.length_append, cw_len]; done)) (by first | (rw [cw_len]; kernel_rfl) | (simp only [List.length_append, cw_len]; kernel_rfl)) (cw_one _ _) ?_
    intro w7 st7
    clear st6
    have hr := st7.at 0 rfl
    have hfr := st7.fr
    clear st7
    go_wp2_with fail
    exact bodyPost_ret (results_arr rfl rfl hr Try.underlying81 (by first | (rw [cw_len]; kernel_rfl) | (simp only [List.length_append, cw_len]; kernel_rfl))) rfl ⟨rfl, hfr⟩
  · have hd := decide_eq_false hlt
    rw [hd]
    clear hd hlt
    go_wp2_with (with_reducible refine wl_stop (o := ⟨some 6, _, _, _, _, _⟩) ?_)
    refine wl_allocS st5 rfl rfl (z := .agg #[.int .u64 0, .int .u64 0, .int .u64 0, .int .u64 0]) (by kernel_rfl) (cw 4 0) (by rw [cw_zero]; rfl) ?_
    intro g6 w6 st6
    clear st5
    go_wp2_with fail
    refine (MOne_any m gp _ HOK.out (HPM.out.keep st6.fr id)).mono ?_
    rintro e' w7 ⟨rfl, hf7⟩
    have st7 := st6.keep hf7
    clear st6 hf7
    go_wp2_with (with_reducible refine wl_stop (o := ⟨some 7, _, _, _, _, _⟩) ?_)
    refine wl_allocS st7 rfl rfl (z := .agg #[.int .u64 0, .int .u64 0, .int .u64 0, .int .u64 0]) (by kernel_rfl) (cw 4 0) (by rw [cw_zero]; rfl) ?_
    intro g7 w8 st8
    clear st7
    go_wp2_with (with_reducible refine wl_stop (o := ⟨none, _, _, _, _, _⟩) ?_)
    refine wl_storeS st8 3 rfl rfl rfl rfl rfl (by first | (simp only [cw_len]; done) | (simp only [List.length_append, cw_len]; done)) (by first | (rw [cw_len]; kernel_rfl) | (simp only [List.length_append, cw_len]; kernel_rfl)) (cw_one _ _) ?_
    intro w9 st9
    clear st8
    go_wp2
    go_loopw [8] (fun i wr => ∃ j : Nat, j ≤ 256 ∧ i = .int .i64 ((j : Int) - 1) ∧ St Nob w wr [(g4, cw 4 0, 81), (g5, cw 4 (beN l), 66), (g6, cw 4 (elN m (beN l / 2 ^ j)), 81), (g7, cw 4 (elN m 1), 81)]) (fun i _ => (intOf i + 1).toNat)
    case atStart => exact ⟨256, by omega, rfl, by rw [HTOP.out]; exact st9⟩
    case round =>
      obtain ⟨j, hj, rfl, st⟩ := hrel
      clear st9
      cases j with
      | succ i =>
        rw [show (((i + 1 : Nat) : Int)) - 1 = (i : Int) by omega]
        have hge : (0 : Int) ≤ (i : Int) := by omega
        go_wp2_with (with_reducible refine wl_stop (o := ⟨some 27, _, _, _, _, _⟩) ?_)
        refine wl_loadS st 2 rfl rfl rfl Try.underlying81 rfl (by first | (rw [cw_len]; kernel_rfl) | (simp only [List.length_append, cw_len]; kernel_rfl)) ?_
        go_wp2_with (with_reducible refine wl_stop (o := ⟨some 28, _, _, _, _, _⟩) ?_)
        refine wl_loadS st 2 rfl rfl rfl Try.underlying81 rfl (by first | (rw [cw_len]; kernel_rfl) | (simp only [List.length_append, cw_len]; kernel_rfl)) ?_
        go_wp2_with fail
        refine (MAdd_any m gp _ HOK.out (HPM.out.keep st.fr id) (beN l / 2 ^ (i + 1)) (beN l / 2 ^ (i + 1))).mono ?_
        rintro e' w10 ⟨rfl, hf10⟩
        have st10 := st.keep hf10
        clear st hf10
        go_wp2_with (with_reducible refine wl_stop (o := ⟨none, _, _, _, _, _⟩) ?_)
        refine wl_storeS st10 2 rfl rfl rfl rfl rfl (by first | (simp only [cw_len]; done) | (simp only [List.length_append, cw_len]; done)) (by first | (rw [cw_len]; kernel_rfl) | (simp only [List.length_append, cw_len]; kernel_rfl)) (cw_one _ _) ?_
        intro w11 st11
        clear st10
        go_wp2_with (with_reducible refine wl_stop (o := ⟨some 30, _, _, _, _, _⟩) ?_)
        refine wl_loadS st11 1 rfl rfl rfl Try.underlying66 rfl (by first | (rw [cw_len]; kernel_rfl) | (simp only [List.length_append, cw_len]; kernel_rfl)) ?_
        go_wp2_with fail
        refine (MBit_any (beN l) i _ (by omega)).mono ?_
        rintro e' w12 ⟨rfl, hf12⟩
        have st12 := st11.keep hf12
        clear st11 hf12
        have hbt : beN l / 2 ^ i % 2 = 0 ∨ beN l / 2 ^ i % 2 = 1 := by omega
        have HS0 := Lib.hid (eladd0 m (beN l) i)
        have HS1 := Lib.hid (eladd1 m (beN l) i)
        generalize hbb : beN l / 2 ^ i % 2 = bt at *
        have HBT := Lib.hid hbb
        clear hbb
        rcases hbt with rfl | rfl
        · have hst := st12
          rw [HS0.out (by first | rfl | trivial)] at hst
          clear st12
          go_wp2
          go_roundw
          case rel => exact ⟨i, by omega, rfl, hst⟩
          case measure => simp [intOf]
        · skip
          go_wp2_with (with_reducible refine wl_stop (o := ⟨some 35, _, _, _, _, _⟩) ?_)
          refine wl_loadS st12 2 rfl rfl rfl Try.underlying81 rfl (by first | (rw [cw_len]; kernel_rfl) | (simp only [List.length_append, cw_len]; kernel_rfl)) ?_
          go_wp2_with (with_reducible refine wl_stop (o := ⟨some 36, _, _, _, _, _⟩) ?_)
          refine wl_loadS st12 3 rfl rfl rfl Try.underlying81 rfl (by first | (rw [cw_len]; kernel_rfl) | (simp only [List.length_append, cw_len]; kernel_rfl)) ?_
          go_wp2_with fail
          refine (MAdd_any m gp _ HOK.out (HPM.out.keep st12.fr id) ((beN l / 2 ^ (i + 1)) + (beN l / 2 ^ (i + 1))) 1).mono ?_
          rintro e' w13 ⟨rfl, hf13⟩
          have st13 := st12.keep hf13
          clear st12 hf13
          go_wp2_with (with_reducible refine wl_stop (o := ⟨none, _, _, _, _, _⟩) ?_)
          refine wl_storeS st13 2 rfl rfl rfl rfl rfl (by first | (simp only [cw_len]; done) | (simp only [List.length_append, cw_len]; done)) (by first | (rw [cw_len]; kernel_rfl) | (simp only [List.length_append, cw_len]; kernel_rfl)) (cw_one _ _) ?_
          intro w14 st14
          clear st13
          have hst := st14
          rw [HS1.out (by first | rfl | trivial)] at hst
          clear st14
          go_wp2
          go_roundw
          case rel => exact ⟨i, by omega, rfl, hst⟩
          case measure => simp [intOf]
      | zero =>
        rw [show (((0 : Nat) : Int)) - 1 = -1 by omega]
        go_wp2_with (with_reducible refine wl_stop (o := ⟨some 38, _, _, _, _, _⟩) ?_)
        refine wl_loadS st 2 rfl rfl rfl Try.underlying81 rfl (by first | (rw [cw_len]; kernel_rfl) | (simp only [List.length_append, cw_len]; kernel_rfl)) ?_
        go_wp2_with (with_reducible refine wl_stop (o := ⟨none, _, _, _, _, _⟩) ?_)
        refine wl_storeS st 0 rfl rfl rfl rfl rfl (by first | (simp only [cw_len]; done) | (simp only [List.length_append, cw_len]; done)) (by first | (rw [cw_len]; kernel_rfl) | (simp only [List.length_append, cw_len]; kernel_rfl)) (cw_one _ _) ?_
        intro w10 st10
        clear st
        have hr := st10.at 0 rfl
        have hfr := st10.fr
        clear st10
        go_wp2_with fail
        exact bodyPost_ret (results_arr rfl rfl hr Try.underlying81 (by first | (rw [cw_len]; kernel_rfl) | (simp only [List.length_append, cw_len]; kernel_rfl))) rfl ⟨rfl, hfr⟩
end Go.Proofs.Ytmegaegedlbckaa

/- mont: Reduce. -/
namespace Go.Proofs.Ytmegaegedlbckaa
open Go.RowKit Go.Mv Mvp
attribute [local irreducible] limbs lw mix cw cSub cAdd cMul foldC valFrom beN laid be32 powm montT mstep elN

theorem el_mulsq (m : Md) (h : m.Ok) (x : Nat) : elN m x * (B64 ^ 4 * B64 ^ 4 % m.M) * m.Ri % m.M = elN m (x * B64 ^ 4) := by
  rw [el_to m h]
  refine el_congr m ?_
  unfold elN
  rw [Nat.mod_mod]
theorem MMulSq (m : Md) (gp : Nat) (w : World) (hok : m.Ok) (hpm : Has w gp (mdL m) 68) (x : Nat) :
    Calls Try.prog 45 #[.pointer (some ⟨gp, 0, none⟩), i4 (elN m x), i4 (B64 ^ 4 * B64 ^ 4 % m.M)] w fun e w' => e = .returned (i4 (elN m (x * B64 ^ 4))) ∧ Fr Nob w w' := by
  have h := MMul_any m gp (elN m x) (B64 ^ 4 * B64 ^ 4 % m.M) w hok hpm (el_lt4 m hok x) (Nat.mod_lt _ (by have := hok.one; omega))
  rwa [el_mulsq m hok] at h
def lnV : Value → Nat
  | .slice _ n _ => n
  | _ => 0
theorem RdB.front {w : World} {a : Option Addr} {n : Nat} {l : List UInt8} (h : RdB w a n l) (k : Nat) (hk : k ≤ n) : RdB w a k (l.take k) := by
  have h' : Rd w a n (bs l) := h
  refine ⟨by rw [length_bs, List.length_take, h.len]; omega, ?_⟩
  rcases h'.2 with h0 | ⟨b, o, rfl, hc⟩
  · exact .inl (by omega)
  · refine .inr ⟨b, o, rfl, fun i v hv => hc i v ?_⟩
    rw [← bs_take, List.getElem?_take] at hv
    split at hv
    · exact hv
    · cases hv
theorem RdB.behind {w : World} {a : Option Addr} {n c : Nat} {l : List UInt8} (h : RdB w a n l) (k : Nat) (hk : k ≤ n) (hc : n ≤ c) : RdB w (cutAt a k c) (n - k) (l.drop k) := by
  have h1 := cutAt_rd (m := c) h k n hk hc (Nat.le_refl _)
  unfold RdB
  rw [bs_drop] at h1
  rwa [List.take_of_length_le (by rw [length_bs, List.length_drop, h.len]; exact Nat.le_refl _)] at h1

set_option maxHeartbeats 8000000 in
set_option maxRecDepth 100000 in
theorem MReduce_any (m : Md) (gp : Nat) (w : World) (hok : m.Ok) (hpm : Has w gp (mdL m) 68) (a : Option Addr) (n c : Nat) (l : List UInt8) (hb : RdB w a n l) (hc : n ≤ c) (hn : n ≤ 1000000) :
    Calls Try.prog 38 #[.pointer (some ⟨gp, 0, none⟩), .slice a n c] w fun e w' => e = .returned (i4 (beN l % m.M)) ∧ Fr Nob w w' := by
  have HOK := Lib.hid hok
  have HPM := Lib.hid hpm
  clear hok hpm
  have HC := Lib.hid hc
  have HN := Lib.hid hn
  have HBB := Lib.hid hb
  have HL := Lib.hid hb.len
  clear hb
  clear hc hn
  have st0 := St.start Nob w
  go_enter Try.func38, Try.ntmps38
  go_wp2_with (with_reducible refine wl_stop (o := ⟨some 4, _, _, _, _, _⟩) ?_)
  refine wl_allocS st0 rfl rfl (z := .agg #[.int .u64 0, .int .u64 0, .int .u64 0, .int .u64 0]) (by kernel_rfl) (cw 4 0) (by rw [cw_zero]; rfl) ?_
  intro g4 w1 st1
  clear st0
  go_wp2_with (with_reducible refine wl_stop (o := ⟨some 5, _, _, _, _, _⟩) ?_)
  refine wl_allocS st1 rfl rfl (z := .agg #[.int .u64 0, .int .u64 0, .int .u64 0, .int .u64 0]) (by kernel_rfl) (cw 4 0) (by rw [cw_zero]; rfl) ?_
  intro g5 w2 st2
  clear st1
  go_wp2
  go_frame
  go_loopw [1] (fun b wr => ∃ (r : Nat) (ar : Option Addr) (cr : Nat), r ≤ n ∧ (r = 0 ∨ (n - r) % 32 = 0) ∧ b = .slice ar (n - r) cr ∧ n - r ≤ cr ∧ RdB w ar (n - r) (l.drop r) ∧ St Nob w wr [(g4, cw 4 0, 66), (g5, cw 4 (elN m (beN (l.take r))), 81)]) (fun b _ => lnV b % 32)
  case atStart => exact ⟨0, a, c, by omega, .inl rfl, rfl, HC.out, HBB.out, by rw [List.take_zero, beN_nil, el_zero]; exact st2⟩
  case round =>
    obtain ⟨r, ar, cr, hr, hcond, rfl, hcr, hrd, st⟩ := hrel
    clear st2
    have HCR := Lib.hid hcr
    have HRD := Lib.hid hrd
    have hn6 : n ≤ 1000000 := HN.out
    clear hcr hrd
    by_cases hm : (n - r) % 32 = 0
    · have hne : ((((n - r : Nat) : Int) % 32) != 0) = false := by simp; omega
      have hcond2 : (n - r) % 32 = 0 := hm
      have HM := Lib.hid hm
      have HC2 := Lib.hid hcond2
      clear hm hcond hcond2
      generalize hk : n - r = k at *
      have HK := Lib.hid hk; clear hk
      go_wp2_with fail
      clear hne
      obtain ⟨wo, rfl⟩ : ∃ wo : World, wo = wr := ⟨_, rfl⟩
      go_loopw [1] (fun b wr => ∃ (r : Nat) (ar : Option Addr) (cr : Nat), r ≤ n ∧ (n - r) % 32 = 0 ∧ b = .slice ar (n - r) cr ∧ n - r ≤ cr ∧ RdB w ar (n - r) (l.drop r) ∧ St Nob w wr [(g4, cw 4 0, 66), (g5, cw 4 (elN m (beN (l.take r))), 81)]) (fun b _ => lnV b)
      case atStart => exact ⟨r, ar, cr, hr, by rw [HK.out]; exact HC2.out, by rw [HK.out], by rw [HK.out]; exact HCR.out, by rw [HK.out]; exact HRD.out, st⟩
      case round =>
        clear hr HCR HRD st HM HC2 HK
        obtain ⟨r, ar, cr, hr, hcond, rfl, hcr, hrd, st⟩ := hrel
        have HCR := Lib.hid hcr
        have HRD := Lib.hid hrd
        have HCO := Lib.hid hcond
        clear hcr hrd
        by_cases hz : r = n
        · have HZ := Lib.hid hz
          have hkz : ((n - r : Nat) : Int) = 0 := by omega
          have hgt : (0 < ((n - r : Nat) : Int)) = False := by simp; omega
          clear hz hcond
          generalize n - r = k at *
          have hgt2 : ¬ (0 < (k : Int)) := by omega
          clear hgt hkz
          go_wp2_with (with_reducible refine wl_stop (o := ⟨some 41, _, _, _, _, _⟩) ?_)
          refine wl_loadS st 1 rfl rfl rfl Try.underlying81 rfl (by first | (rw [cw_len]; kernel_rfl) | (simp only [List.length_append, cw_len]; kernel_rfl)) ?_
          go_wp2_with fail
          refine (MFrom_any m gp _ HOK.out (HPM.out.keep st.fr id) (beN (l.take r))).mono ?_
          rintro e' w3 ⟨rfl, hf3⟩
          have st3 := st.keep hf3
          clear st hf3
          go_wp2_with (with_reducible refine wl_stop (o := ⟨none, _, _, _, _, _⟩) ?_)
          refine wl_storeS st3 0 rfl rfl rfl rfl rfl (by first | (simp only [cw_len]; done) | (simp only [List.length_append, cw_len]; done)) (by first | (rw [cw_len]; kernel_rfl) | (simp only [List.length_append, cw_len]; kernel_rfl)) (cw_one _ _) ?_
          intro w4 st4
          clear st3
          have hr := st4.at 0 rfl
          have hfr := st4.fr
          clear st4
          go_wp2_with fail
          exact bodyPost_ret (results_arr rfl rfl hr Try.underlying66 (by first | (rw [cw_len]; kernel_rfl) | (simp only [List.length_append, cw_len]; kernel_rfl))) rfl ⟨by rw [HZ.out, List.take_of_length_le (by rw [HL.out]; exact Nat.le_refl _)]; rfl, hfr⟩
        · have hk32 : 32 ≤ n - r := by omega
          obtain ⟨gb, ob, hAR, -⟩ := HRD.out.at (by omega)
          have hcut : cutAt ar 32 cr = if cr = 32 then ar else some ⟨gb, ob + 32, none⟩ := by rw [hAR]; simp [cutAt, addr_add]
          have HAR := Lib.hid hAR; clear hAR
          have HCUT := Lib.hid hcut; clear hcut
          have hfr := RdB.front HRD.out 32 hk32
          have hbe := RdB.behind HRD.out 32 hk32 HCR.out
          have htk := beN_take_add l r 32 (by rw [HL.out]; omega)
          rw [show (256 : Nat) ^ 32 = B64 ^ 4 by decide] at htk
          have HFR := Lib.hid hfr
          have HBE := Lib.hid hbe
          have HTK := Lib.hid htk
          have hcr := HCR.out
          have k1 := fun wx => run_slice_hi (P := Try.prog) wx Try.underlying29 size_u8 ar (n - r) cr .i64 32 (by omega)
          have k2 := fun wx => run_slice_lo (P := Try.prog) wx Try.underlying29 size_u8 ar (n - r) cr .i64 32 (by omega)
          clear hz hcond hfr hbe htk hcr
          have hgt : (0 < ((n - r : Nat) : Int)) := by omega
          have hk3 : 32 ≤ n - r := hk32
          have hci : (32 : Int) ≤ (cr : Int) := by have := HCR.out; omega
          clear hk32
          generalize hkk : n - r = k at *
          have HKK := Lib.hid hkk; clear hkk
          go_wp2_with fail
          refine wp_region_noPanic ?_
          refine wp_region_plan (fun wx => St Nob w wx [(g4, cw 4 0, 66), (g5, cw 4 (elN m (beN (l.take r))), 81)]) 13 (.w 0 (.w 1 (.t 2 (.w 3 (.w 4 (.w 5 (.t 6 (.w 8 (.w 9 (.w 10 (.r 7 (.r 11 (.r 12 (.m 13 .nil)))))))))))))) (by kernel_rfl) (by kernel_rfl) st.drew (fun _ _ _ _ _ h => h) ?_
          have hd2 := st.drew
          clear st
          refine plan_w (v := ?_) rfl rfl (fun wx => ?_) ?_
          rotate_left 1
          · (go_simp; with_reducible rfl)
          try simp only [Act.put, List.setIfInBounds_toArray, List.set_cons_zero, List.set_cons_succ]
          refine plan_w (v := ?_) rfl rfl (fun wx => ?_) ?_
          rotate_left 1
          · (go_simp; with_reducible rfl)
          try simp only [Act.put, List.setIfInBounds_toArray, List.set_cons_zero, List.set_cons_succ]
          refine plan_arr rfl rfl rfl rfl (cw 4 (elN m (beN (l.take r)))) (fun wx hS => St.rangeL hS 1 rfl 0 _ (by rw [List.drop_zero, List.take_of_length_le (Nat.le_refl _)])) Try.underlying81 rfl (by first | (rw [cw_len]; kernel_rfl) | (simp only [List.length_append, cw_len]; kernel_rfl)) ?_
          try simp only [Act.put, List.setIfInBounds_toArray, List.set_cons_zero, List.set_cons_succ]
          refine plan_w (v := ?_) rfl rfl (fun wx => ?_) ?_
          rotate_left 1
          · (go_simp; with_reducible rfl)
          try simp only [Act.put, List.setIfInBounds_toArray, List.set_cons_zero, List.set_cons_succ]
          refine plan_w (v := ?_) rfl rfl (fun wx => ?_) ?_
          rotate_left 1
          · (go_simp; with_reducible rfl)
          try simp only [Act.put, List.setIfInBounds_toArray, List.set_cons_zero, List.set_cons_succ]
          refine plan_w (v := ?_) rfl rfl (fun wx => ?_) ?_
          rotate_left 1
          · (go_simp; with_reducible rfl)
          try simp only [Act.put, List.setIfInBounds_toArray, List.set_cons_zero, List.set_cons_succ]
          refine plan_arr rfl rfl rfl rfl (cw 4 (B64 ^ 4 * B64 ^ 4 % m.M)) (fun wx hS => (HPM.out.keep (St.fr hS) id).range 9 _ (md_sq m)) Try.underlying66 rfl (by first | (rw [cw_len]; kernel_rfl) | (simp only [List.length_append, cw_len]; kernel_rfl)) ?_
          try simp only [Act.put, List.setIfInBounds_toArray, List.set_cons_zero, List.set_cons_succ]
          refine plan_w (v := ?_) rfl rfl (fun wx => ?_) ?_
          rotate_left 1
          · (go_simp; with_reducible rfl)
          try simp only [Act.put, List.setIfInBounds_toArray, List.set_cons_zero, List.set_cons_succ]
          refine plan_w (v := ?_) rfl rfl (fun wx => ?_) ?_
          rotate_left 1
          · (go_simp; with_reducible rfl)
          try simp only [Act.put, List.setIfInBounds_toArray, List.set_cons_zero, List.set_cons_succ]
          refine plan_w (v := ?_) rfl rfl (fun wx => ?_) ?_
          rotate_left 1
          · (go_simp; with_reducible rfl)
          try simp only [Act.put, List.setIfInBounds_toArray, List.set_cons_zero, List.set_cons_succ]
          refine plan_r rfl rfl ?_
          go_simp
          refine (MMulSq m gp _ HOK.out (HPM.out.keep hd2.fr id) (beN (l.take r))).mono ?_
          rintro e' w3 ⟨rfl, hf3⟩
          have st3 := hd2.keep hf3
          clear hf3
          clear hd2
          refine ⟨st3, ?_⟩
          try simp only [Act.put, List.setIfInBounds_toArray, List.set_cons_zero, List.set_cons_succ]
          refine plan_r rfl rfl ?_
          go_simp
          refine (Mfold_any m gp _ HOK.out (HPM.out.keep st3.fr id) ar 32 cr ((l.drop r).take 32) (HFR.out.still st3.fr) (by decide)).mono ?_
          rintro e' w4 ⟨rfl, hf4⟩
          have st4 := st3.keep hf4
          clear hf4
          clear st3
          refine ⟨st4, ?_⟩
          try simp only [Act.put, List.setIfInBounds_toArray, List.set_cons_zero, List.set_cons_succ]
          refine plan_r rfl rfl ?_
          go_simp
          refine (MAdd_any m gp _ HOK.out (HPM.out.keep st4.fr id) ((beN (l.take r)) * B64 ^ 4) (beN ((l.drop r).take 32))).mono ?_
          rintro e' w5 ⟨rfl, hf5⟩
          have st5 := st4.keep hf5
          clear hf5
          clear st4
          refine ⟨st5, ?_⟩
          try simp only [Act.put, List.setIfInBounds_toArray, List.set_cons_zero, List.set_cons_succ]
          refine plan_m rfl rfl ?_
          refine wp_storeS st5 1 rfl rfl rfl rfl (by first | (simp only [cw_len]; done) | (simp only [List.length_append, cw_len]; done)) (by first | (rw [cw_len]; kernel_rfl) | (simp only [List.length_append, cw_len]; kernel_rfl)) (cw_one _ _) ?_
          intro w6 st6
          clear st5
          try simp only [Act.put]
          refine plan_end ?_
          refine NoPanic.normal ?_
          have hst := st6
          rw [← HTK.out] at hst
          clear st6
          go_wp2_with fail
          go_roundw
          case rel =>
            refine ⟨r + 32, cutAt ar 32 cr, cr - 32, ?_, ?_, ?_, ?_, ?_, hst⟩
            · have := HKK.out; omega
            · have h1 := HCO.out; have h2 := HKK.out; omega
            · have h2 := HKK.out; rw [show n - (r + 32) = k - 32 by omega, HCUT.out, HAR.out]; rfl
            · have h2 := HKK.out; have h3 := HCR.out; omega
            · have h2 := HKK.out
              have h3 := HBE.out
              rw [List.drop_drop] at h3
              rw [show n - (r + 32) = k - 32 by omega]
              exact h3
          case measure => simp [lnV]; omega
    · have hne : ((((n - r : Nat) : Int) % 32) != 0) = true := by simp; omega
      have hr0 : r = 0 := by rcases hcond with h | h <;> omega
      subst hr0
      have hk32 : n % 32 ≤ n - 0 := by omega
      have hfr := RdB.front HRD.out (n % 32) hk32
      have hbe := RdB.behind HRD.out (n % 32) hk32 HCR.out
      have hcr := HCR.out
      have k1 := fun wx => run_slice_hi (P := Try.prog) wx Try.underlying29 size_u8 ar (n - 0) cr .i64 (n % 32) (by omega)
      have k2 := fun wx => run_slice_lo (P := Try.prog) wx Try.underlying29 size_u8 ar (n - 0) cr .i64 (n % 32) (by omega)
      have hm32 : n % 32 < 32 := Nat.mod_lt _ (by decide)
      have hmod : ((n % 32 : Nat) : Int) = (n : Int) % 32 := by omega
      simp only [List.drop_zero, Nat.sub_zero] at hfr hbe k1 k2 hne hm
      rw [hmod] at k1 k2
      have HFR := Lib.hid hfr
      have HBE := Lib.hid hbe
      have HM := Lib.hid hm
      have HM32 := Lib.hid hm32
      clear hm hfr hbe hcond hcr hk32 hr hmod hm32
      simp only [Nat.sub_zero]
      go_wp2_with fail
      refine (Mfold_any m gp _ HOK.out (HPM.out.keep st.fr id) ar (n % 32) cr (l.take (n % 32)) (HFR.out.still st.fr) (Nat.le_of_lt HM32.out)).mono ?_
      rintro e' w3 ⟨rfl, hf3⟩
      have st3 := st.keep hf3
      clear st hf3
      go_wp2_with (with_reducible refine wl_stop (o := ⟨none, _, _, _, _, _⟩) ?_)
      refine wl_storeS st3 1 rfl rfl rfl rfl rfl (by first | (simp only [cw_len]; done) | (simp only [List.length_append, cw_len]; done)) (by first | (rw [cw_len]; kernel_rfl) | (simp only [List.length_append, cw_len]; kernel_rfl)) (cw_one _ _) ?_
      intro w4 st4
      clear st3
      have hst := st4
      clear st4
      go_wp2_with fail
      go_roundw
      case rel => exact ⟨n % 32, cutAt ar (n % 32) cr, cr - n % 32, by omega, .inr (by omega), rfl, by have := HCR.out; omega, HBE.out, hst⟩
      case measure => have := HM.out; simp [lnV]; omega
end Go.Proofs.Ytmegaegedlbckaa

/- mont.Of. -/
namespace Go.Proofs.Ytmegaegedlbckaa
open Go.RowKit Go.Mv Mvp
theorem cells_mP : [Value.int .u64 18446744069414583343, .int .u64 18446744073709551615, .int .u64 18446744073709551615, .int .u64 18446744073709551615, .int .u64 15580212934572586289, .int .u64 4294968273, .int .u64 0, .int .u64 0, .int .u64 0, .int .u64 8392367050913, .int .u64 1, .int .u64 0, .int .u64 0] = mdL mP := by kernel_rfl
theorem cells_mQ : [Value.int .u64 13822214165235122497, .int .u64 13451932020343611451, .int .u64 18446744073709551614, .int .u64 18446744073709551615, .int .u64 5408259542528602431, .int .u64 4624529908474429119, .int .u64 4994812053365940164, .int .u64 1, .int .u64 0, .int .u64 9902555850136342848, .int .u64 8364476168144746616, .int .u64 16616019711348246470, .int .u64 11342065889886772165] = mdL mQ := by kernel_rfl

set_option maxHeartbeats 2000000 in
set_option maxRecDepth 100000 in
theorem Of0 (w : World) : Calls Try.prog 36 #[.int .i64 0] w fun e w' => ∃ g, e = .returned (.tuple #[.pointer (some ⟨g, 0, none⟩), .bool true]) ∧ w.heap.size ≤ g ∧ Has w' g (mdL mP) 68 ∧ Fr Nob w w' := by
  go_enter Try.func36, Try.ntmps36
  go_wp2
  go_ret2
  exact ⟨_, rfl, Nat.le_refl _, by rw [← cells_mP]; exact Has.new w _ _, (Fr.refl Nob w).alloc _⟩
set_option maxHeartbeats 2000000 in
set_option maxRecDepth 100000 in
theorem Of1 (w : World) : Calls Try.prog 36 #[.int .i64 1] w fun e w' => ∃ g, e = .returned (.tuple #[.pointer (some ⟨g, 0, none⟩), .bool true]) ∧ w.heap.size ≤ g ∧ Has w' g (mdL mQ) 68 ∧ Fr Nob w w' := by
  go_enter Try.func36, Try.ntmps36
  go_wp2
  go_ret2
  exact ⟨_, rfl, Nat.le_refl _, by rw [← cells_mQ]; exact Has.new w _ _, (Fr.refl Nob w).alloc _⟩
set_option maxHeartbeats 2000000 in
set_option maxRecDepth 100000 in
theorem Of2 (k : Int) (w : World) (h0 : (k == 0) = false) (h1 : (k == 1) = false) : Calls Try.prog 36 #[.int .i64 k] w fun e w' => e = .returned (.tuple #[.pointer none, .bool false]) ∧ w = w' := by
  go_enter Try.func36, Try.ntmps36
  go_wp2
  go_ret2
  exact ⟨rfl, rfl⟩
end Go.Proofs.Ytmegaegedlbckaa

/- num.Modulus, num.Reduce; the law's told. -/
namespace Go.Proofs.Ytmegaegedlbckaa
open Go.RowKit Go.Mv Mvp

/-- the known kinds -/
inductive KindOf : Int → Md → Prop where
  | zero : KindOf 0 mP
  | one : KindOf 1 mQ
theorem KindOf.ok {k : Int} {m : Md} (h : KindOf k m) : m.Ok := by cases h; exact mP_ok; exact mQ_ok
theorem kind_cases (k : Int) : (∃ m, KindOf k m) ∨ ((k == 0) = false ∧ (k == 1) = false) := by
  by_cases h0 : k = 0
  · subst h0; exact .inl ⟨_, .zero⟩
  · by_cases h1 : k = 1
    · subst h1; exact .inl ⟨_, .one⟩
    · exact .inr ⟨by simpa using h0, by simpa using h1⟩
theorem OfK {k : Int} {m : Md} (hk : KindOf k m) (w : World) : Calls Try.prog 36 #[.int .i64 k] w fun e w' => ∃ g, e = .returned (.tuple #[.pointer (some ⟨g, 0, none⟩), .bool true]) ∧ w.heap.size ≤ g ∧ Has w' g (mdL m) 68 ∧ Fr Nob w w' := by
  cases hk
  · exact Of0 w
  · exact Of1 w
theorem MakeK {k : Int} {m : Md} (hk : KindOf k m) (w : World) : Calls Try.prog 16 #[.int .i64 k] w fun e w' => e = .returned (fv m.M) ∧ Fr Nob w w' := by
  cases hk
  · exact Make0 w
  · exact Make1 w
attribute [local irreducible] limbs lw mix cw cSub cAdd cMul foldC valFrom beN laid be32 powm montT mstep elN mdL

set_option maxHeartbeats 8000000 in
set_option maxRecDepth 100000 in
theorem NModulus_k (k : Int) (m : Md) (hk : KindOf k m) (w : World) :
    Calls Try.prog 12 #[.int .i64 k] w fun e w' => ∃ v, e = .returned (.tuple #[v, .int .i64 0]) ∧ Own w' w.heap.size 5 1 v 32 (bs (be32 m.M)) ∧ Fr Nob w w' := by
  have HK := Lib.hid hk; clear hk
  go_enter Try.func12, Try.ntmps12
  go_wp2_with fail
  refine (OfK HK.out _).mono ?_
  rintro e w1 ⟨g, rfl, hg, hm, hf⟩
  clear hg
  have HF := Lib.hid hf; clear hf
  go_wp2_with (with_reducible refine wl_stop (o := ⟨some 16, _, _, _, _, _⟩) ?_)
  refine wl_loadA rfl rfl Try.underlying66 rfl hm (cw 4 m.M) (md_M m) (by simp only [cw_len]; kernel_rfl) ?_
  clear hm
  go_wp2_with fail
  refine (MBytes_any m.M _).mono ?_
  rintro e w2 ⟨v, rfl, hown, hf2⟩
  have h2 := HF.out.then hf2
  have ho := hown.mono HF.out.size
  clear hown hf2 HF
  go_wp2_with fail
  go_ret2
  exact ⟨v, rfl, ho, h2⟩
set_option maxHeartbeats 8000000 in
set_option maxRecDepth 100000 in
theorem NModulus_x (k : Int) (w : World) (h0 : (k == 0) = false) (h1 : (k == 1) = false) :
    Calls Try.prog 12 #[.int .i64 k] w fun e w' => e = .returned (.tuple #[.slice none 0 0, .int .i64 2]) ∧ w = w' := by
  have H0 := Lib.hid h0
  have H1 := Lib.hid h1
  clear h0 h1
  go_enter Try.func12, Try.ntmps12
  go_wp2_with fail
  refine (Of2 k _ H0.out H1.out).mono ?_
  rintro e w1 ⟨rfl, rfl⟩
  go_wp2_with fail
  go_ret2
  exact ⟨rfl, rfl⟩
set_option maxHeartbeats 8000000 in
set_option maxRecDepth 100000 in
theorem NReduce_k (k : Int) (m : Md) (hk : KindOf k m) (a : Option Addr) (n c : Nat) (l : List UInt8) (w : World) (hb : RdB w a n l) (hc : n ≤ c) (hn : n ≤ 1024) :
    Calls Try.prog 13 #[.int .i64 k, .slice a n c] w fun e w' => ∃ v, e = .returned (.tuple #[v, .int .i64 0]) ∧ Own w' w.heap.size 5 1 v 32 (bs (be32 (beN l % m.M))) ∧ Fr Nob w w' := by
  have HK := Lib.hid hk
  have HB := Lib.hid hb
  have HC := Lib.hid hc
  have hn2 : (n : Int) ≤ 1024 := by omega
  clear hk hb hc
  go_enter Try.func13, Try.ntmps13
  go_wp2_with fail
  refine (OfK HK.out _).mono ?_
  rintro e w1 ⟨g, rfl, hg, hm, hf⟩
  clear hg
  have HF := Lib.hid hf; clear hf
  have HM := Lib.hid hm; clear hm
  go_wp2_with fail
  refine (MReduce_any m g _ HK.out.ok HM.out a n c l (HB.out.still HF.out) HC.out (by omega)).mono ?_
  rintro e w2 ⟨rfl, hf2⟩
  have HF2 := Lib.hid (HF.out.then hf2); clear hf2
  go_wp2_with fail
  refine (MBytes_any (beN l % m.M) _).mono ?_
  rintro e w3 ⟨v, rfl, hown, hf3⟩
  have h2 := HF2.out.then hf3
  have ho := hown.mono HF2.out.size
  clear hown hf3 HF2 HM HF
  go_wp2_with fail
  go_ret2
  exact ⟨v, rfl, ho, h2⟩
set_option maxHeartbeats 8000000 in
set_option maxRecDepth 100000 in
theorem NReduce_x (k : Int) (v : Value) (w : World) (h0 : (k == 0) = false) (h1 : (k == 1) = false) :
    Calls Try.prog 13 #[.int .i64 k, v] w fun e w' => e = .returned (.tuple #[.slice none 0 0, .int .i64 2]) ∧ w = w' := by
  have H0 := Lib.hid h0
  have H1 := Lib.hid h1
  clear h0 h1
  go_enter Try.func13, Try.ntmps13
  go_wp2_with fail
  refine (Of2 k _ H0.out H1.out).mono ?_
  rintro e w1 ⟨rfl, rfl⟩
  go_wp2_with fail
  go_ret2
  exact ⟨rfl, rfl⟩
set_option maxHeartbeats 8000000 in
set_option maxRecDepth 100000 in
theorem NReduce_l (k : Int) (m : Md) (hk : KindOf k m) (a : Option Addr) (n c : Nat) (w : World) (hn : 1024 < n) :
    Calls Try.prog 13 #[.int .i64 k, .slice a n c] w fun e w' => e = .returned (.tuple #[.slice none 0 0, .int .i64 1]) ∧ Fr Nob w w' := by
  have HK := Lib.hid hk
  have hn2 : 1024 < (n : Int) := by omega
  clear hk
  go_enter Try.func13, Try.ntmps13
  go_wp2_with fail
  refine (OfK HK.out _).mono ?_
  rintro e w1 ⟨g, rfl, hg, hm, hf⟩
  clear hg hm
  go_wp2_with fail
  go_ret2
  exact ⟨rfl, hf⟩

set_option maxHeartbeats 8000000 in
set_option maxRecDepth 100000 in
theorem told_ok (a : Option Addr) (n c N : Nat) (w : World) (hrd : RdB w a n (be32 N)) :
    Calls Try.prog 19 #[.slice a n c, .int .i64 0, .int .i64 0, i4 N] w fun e w' => e = .returned (.bool true) ∧ Fr Nob w w' := by
  have HRD := Lib.hid hrd; clear hrd
  have st0 := St.start Nob w
  go_enter Try.func19, Try.ntmps19
  go_wp2_with (with_reducible refine wl_stop (o := ⟨some 7, _, _, _, _, _⟩) ?_)
  refine wl_boxS st0 rfl rfl rfl (cw 4 N) rfl ?_
  intro g7 w1 st1
  clear st0
  go_wp2_with fail
  refine wp_region_noPanic ?_
  refine wp_region_plan (fun wx => St Nob w wx [(g7, cw 4 N, 38)]) 9 (.w 0 (.t 1 (.t 2 (.r 3 (.w 4 (.w 5 (.w 6 (.w 7 (.w 8 (.m 9 .nil)))))))))) (by kernel_rfl) (by kernel_rfl) st1.drew (fun _ _ _ _ _ h => h) ?_
  have hd1 := st1.drew
  clear st1
  refine plan_w (v := ?_) rfl rfl (fun wx => ?_) ?_
  rotate_left 1
  · (go_simp; with_reducible rfl)
  try simp only [Act.put, List.setIfInBounds_toArray, List.set_cons_zero, List.set_cons_succ]
  refine plan_t (v := ?_) rfl rfl (fun wx hS => ?_) ?_
  rotate_left 1
  · (have hc := run_string (P := Try.prog) (HRD.out.still (St.fr hS)) c Try.underlying29 Try.underlying5 Try.underlying9; clear hS; go_simp; with_reducible rfl)
  try simp only [Act.put, List.setIfInBounds_toArray, List.set_cons_zero, List.set_cons_succ]
  refine plan_arr rfl rfl rfl rfl (cw 4 N) (fun wx hS => St.rangeL hS 0 rfl 0 _ (by rw [List.drop_zero, List.take_of_length_le (Nat.le_refl _)])) Try.underlying38 rfl (by first | (rw [cw_len]; kernel_rfl) | (simp only [List.length_append, cw_len]; kernel_rfl)) ?_
  try simp only [Act.put, List.setIfInBounds_toArray, List.set_cons_zero, List.set_cons_succ]
  refine plan_r rfl rfl ?_
  go_simp
  refine (RBytes_any N _).mono ?_
  rintro e' w2 ⟨rfl, hf2⟩
  have st2 := hd1.keep hf2
  clear hf2
  clear hd1
  refine ⟨st2, ?_⟩
  try simp only [Act.put, List.setIfInBounds_toArray, List.set_cons_zero, List.set_cons_succ]
  refine plan_w (v := ?_) rfl rfl (fun wx => ?_) ?_
  rotate_left 1
  · (go_simp; with_reducible rfl)
  try simp only [Act.put, List.setIfInBounds_toArray, List.set_cons_zero, List.set_cons_succ]
  refine plan_w (v := ?_) rfl rfl (fun wx => ?_) ?_
  rotate_left 1
  · (go_simp; with_reducible rfl)
  try simp only [Act.put, List.setIfInBounds_toArray, List.set_cons_zero, List.set_cons_succ]
  refine plan_g (v := ?_) rfl (by rfl) (fun wx => ?_) ?_
  rotate_left 1
  · (go_simp; with_reducible rfl)
  try simp only [Act.put, List.setIfInBounds_toArray, List.set_cons_zero, List.set_cons_succ]
  refine plan_g (v := ?_) rfl (by rfl) (fun wx => ?_) ?_
  rotate_left 1
  · (go_simp; with_reducible rfl)
  try simp only [Act.put, List.setIfInBounds_toArray, List.set_cons_zero, List.set_cons_succ]
  refine plan_w (v := ?_) rfl rfl (fun wx => ?_) ?_
  rotate_left 1
  · (go_simp; with_reducible rfl)
  try simp only [Act.put, List.setIfInBounds_toArray, List.set_cons_zero, List.set_cons_succ]
  refine plan_m rfl rfl ?_
  go_simp
  try simp only [Act.put, List.setIfInBounds_toArray, List.set_cons_zero, List.set_cons_succ]
  refine plan_end ?_
  refine NoPanic.normal ?_
  have hfr := st2.fr
  clear st2
  go_wp2_with fail
  go_ret
  exact ⟨rfl, hfr⟩

set_option maxHeartbeats 8000000 in
set_option maxRecDepth 100000 in
theorem told_bad (e0 : Int) (N : Nat) (w : World) (h1 : (e0 != 0) = true) :
    Calls Try.prog 19 #[.slice none 0 0, .int .i64 e0, .int .i64 e0, i4 N] w fun e w' => e = .returned (.bool true) ∧ Fr Nob w w' := by
  have st0 := St.start Nob w
  go_enter Try.func19, Try.ntmps19
  go_wp2_with (with_reducible refine wl_stop (o := ⟨some 7, _, _, _, _, _⟩) ?_)
  refine wl_boxS st0 rfl rfl rfl (cw 4 N) rfl ?_
  intro g7 w1 st1
  clear st0
  have hfr := st1.fr
  clear st1
  go_wp2_with fail
  go_ret
  exact ⟨rfl, hfr⟩
end Go.Proofs.Ytmegaegedlbckaa

/- append onto an owned slice, once more: what lay ahead of the new cells is kept, in the old block too. -/
namespace Go.Mv
open Go.RowKit
variable {P : Program}

/-- all cells of old blocks are as they were, but those of v's block behind its n elements -/
def Kept (v : Value) (n sz : Nat) (w w' : World) : Prop :=
  ∀ b i, b < w.heap.size → (∀ o cap, v = .slice (some ⟨b, o, none⟩) n cap → i < o + n * sz) → w'.cell? ⟨b, i, none⟩ = w.cell? ⟨b, i, none⟩

theorem Kept.refl (v : Value) (n sz : Nat) (w : World) : Kept v n sz w w := fun _ _ _ _ => rfl
theorem Kept.ofFr {v : Value} {n sz : Nat} {w w' : World} (h : Fr Nob w w') : Kept v n sz w w' := fun b _ hb _ => World.cell?_of_block (a := ⟨b, _, none⟩) (h.block b hb id)
theorem Kept.rd {v : Value} {n sz : Nat} {w w' : World} (h : Kept v n sz w w') {a : Option Addr} {m : Nat} {L : List Value} (hr : Rd w a m L) (ha : ∀ b o o' cap, a = some ⟨b, o, none⟩ → v = .slice (some ⟨b, o', none⟩) n cap → o + m ≤ o' + n * sz) : Rd w' a m L := by
  refine ⟨hr.1, hr.2.imp id ?_⟩
  rintro ⟨b, o, rfl, hat⟩
  refine ⟨b, o, rfl, fun i u hu => ?_⟩
  have hc := hat i u hu
  have hi : i < m := by
    rcases Nat.lt_or_ge i m with k | k
    · exact k
    · rw [List.getElem?_eq_none (by rw [hr.1]; exact k)] at hu; cases hu
  rw [h b (o + i) (block_lt_of_cell hc) (fun o' cap hv => by have := ha b o o' cap rfl hv; omega)]
  exact hc

theorem run_append3 {w : World} (base : Nat) (t ty e : TypeId) (z : Value) (sz by_ : Nat) (ht : P.underlying t = some (.slice e)) (hi0 : (P.info? e).map (fun i => (i.zero, i.size, i.bytes)) = some (some z, sz, by_))
    (hzs : z.cells.size = sz) (hsz : 0 < sz)
    (v : Value) (n : Nat) (L : List Value) (hown : Own w base e sz v n L)
    (a : Option Addr) (m c : Nat) (news : List Value) (hnews : Rd w a (m * sz) news) (h1 : ∀ u ∈ news, u.oneCell' = true)
    (h63 : n + m ≤ maxLen) (hbytes : (n + m) * by_ ≤ 140737488355328) (hbase : base ≤ w.heap.size) :
    ∃ v' w', (Builtin.append_ #[t, t] ty #[v, .slice a m c]).run P w = .ok v' w' ∧ Own w' base e sz v' (n + m) (L ++ news) ∧ Fr (OwnB v) w w' ∧ Kept v n sz w w' ∧
      (((∃ x o cap, v = .slice (some ⟨x, o, none⟩) n cap ∧ v' = .slice (some ⟨x, o, none⟩) (n + m) cap) ∨ (m = 0 ∧ v' = v)) ∨ (v'.ownBlock = some w.heap.size ∧ Fr Nob w w')) := by
  obtain ⟨i, hi, hz, hsize, hby⟩ := info_parts hi0
  subst hsize
  subst hby
  rcases Nat.eq_zero_or_pos m with rfl | hm
  · obtain ⟨s, cap, rfl, hc, -, -⟩ := hown.form
    have hn : news = [] := List.eq_nil_of_length_eq_zero (by rw [hnews.len]; simp)
    subst hn
    exact ⟨_, w, run_append_zero t ty e i ht hi s n cap hc a c, by simpa using hown, Fr.refl _ _, Kept.refl _ _ _ _, .inl (.inr ⟨rfl, rfl⟩)⟩
  have hms : 0 < m * i.size := Nat.mul_pos hm hsz
  obtain ⟨b, o', rfl, hat⟩ := hnews.at hms
  have hlen : (L ++ news).length = (n + m) * i.size := by rw [List.length_append, hown.1, hnews.len, Nat.add_mul]
  have hsmall : n + m ≤ 9223372036854775807 := by simp only [maxLen] at h63; omega
  have grown : ∀ (old : Nat), old < n + m →
      Own (w.drew.alloc (.cells (L.toArray ++ news.toArray ++ Builtin.zeroCells z.cells (grownCap w (n + m) old e - (n + m))) e)) base e i.size
        (.slice (some ⟨w.heap.size, 0, none⟩) (n + m) (grownCap w (n + m) old e)) (n + m) (L ++ news) ∧
      Fr Nob w (w.drew.alloc (.cells (L.toArray ++ news.toArray ++ Builtin.zeroCells z.cells (grownCap w (n + m) old e - (n + m))) e)) := by
    intro old ho
    have hge := grownCap_ge w (n + m) old e
    have hcm : grownCap w (n + m) old e ≤ maxLen := grownCap_le_maxLen w (n + m) old e h63
    have hz' : (Builtin.zeroCells z.cells (grownCap w (n + m) old e - (n + m))).size = (grownCap w (n + m) old e - (n + m)) * i.size := by simp [size_zeroCells, hzs]
    have hmul : (n + m) * i.size + (grownCap w (n + m) old e - (n + m)) * i.size = grownCap w (n + m) old e * i.size := by rw [← Nat.add_mul]; congr 1; omega
    refine ⟨⟨hlen, .inr ⟨w.heap.size, 0, _, _, rfl, hbase, Has.new w.drew _ e, hge, hcm, ?_, ?_⟩⟩, ((Fr.refl _ w).drew).alloc _⟩
    · rw [List.length_append] at hlen
      simp only [Array.toList_append, List.length_append, Array.length_toList, hz', Nat.zero_add]
      omega
    · simp only [Array.toList_append, List.drop_zero]
      rw [← hlen]
      exact List.take_left
  rcases hown.2 with ⟨rfl, rfl⟩ | ⟨g, o, cap, B, rfl, hbg, hg, hnc, hcm, hl, htake⟩
  · have hx : L = [] := List.eq_nil_of_length_eq_zero (by simpa using hown.1)
    subst hx
    have hr := run_append_nil (P := P) w t ty e i z ht hi hz ⟨b, o', none⟩ m c news hnews.len hat.add hm (by omega) (by have hb := hbytes; simp only [Nat.zero_add] at hb; omega)
    have hgr := grown 0 (by omega)
    simp only [Nat.zero_add, List.nil_append, Array.empty_append] at hgr ⊢
    exact ⟨_, _, hr, hgr.1, hgr.2.mono (fun _ _ t => t.elim), Kept.ofFr hgr.2, .inr ⟨rfl, hgr.2⟩⟩
  · by_cases hroom : n + m ≤ cap
    · have hle : (n + m) * i.size ≤ cap * i.size := Nat.mul_le_mul_right _ hroom
      have hnl := hnews.len
      have hfit : o + n * i.size + news.length ≤ B.length := by rw [Nat.add_mul] at hle; omega
      obtain ⟨w', hr, hh, hf, hzz⟩ := run_append_room2 (P := P) t ty e i ht hi g o n cap B e hg _ m c news hnews h1 hroom hfit
      refine ⟨_, _, hr, ⟨hlen, .inr ⟨g, o, cap, _, rfl, hbg, hh, hroom, hcm, ?_, ?_⟩⟩, hf.mono (fun k _ t => by have e : k = g := t; subst e; rfl), ?_, .inl (.inl ⟨g, o, cap, rfl, rfl⟩)⟩
      · rw [splice_length _ _ _ hfit]; exact hl
      · have := splice_take B o (n * i.size) news hfit
        rw [htake] at this
        rw [← this, hnl, Nat.add_mul]
      · intro b' j hb' hj
        by_cases hbg' : b' = g
        · subst hbg'
          have hj' := hj o cap rfl
          rw [hg.get, hh.get]
          unfold splice
          rw [List.getElem?_append_left (by simp; omega), List.getElem?_take, if_pos hj']
        · exact World.cell?_of_block (a := ⟨b', j, none⟩) (hf.block b' hb' hbg')
    · have hle : n * i.size ≤ cap * i.size := Nat.mul_le_mul_right _ hnc
      have hrd : Rd w (some ⟨g, o, none⟩) (n * i.size) L := by rw [← htake]; exact Rd.ofHas hg o (by omega)
      have holds : ∀ j u, L[j]? = some u → w.cell? ((⟨g, o, none⟩ : Addr).add j) = some u := by
        rcases Nat.eq_zero_or_pos (n * i.size) with h0 | h0
        · have : L = [] := List.eq_nil_of_length_eq_zero (by rw [hown.1, h0])
          subst this; intro j u hu; simp at hu
        · obtain ⟨b2, o2, he, hc2⟩ := hrd.at h0
          simp only [Option.some.injEq, Addr.mk.injEq] at he
          obtain ⟨rfl, rfl, -⟩ := he
          exact hc2.add
      have hr := run_append_grow (P := P) w t ty e i z ht hi hz ⟨g, o, none⟩ n cap L hown.1 holds ⟨b, o', none⟩ m c news hnews.len hat.add (by omega) (by omega) (growslice_fits (by omega) hbytes)
      have hgr := grown cap (by omega)
      exact ⟨_, _, hr, hgr.1, hgr.2.mono (fun _ _ t => t.elim), Kept.ofFr hgr.2, .inr ⟨rfl, hgr.2⟩⟩

section
variable {w : World} {ops : Array Oper} {rest : List Oper} {o : Oper} {a : Act} {Q : Exit → Act → World → Prop}
/-- append(s, x...), x a slice; what stood ahead of the end is kept -/
theorem wl_append_k {s x : Operand} {t : TypeId} (hgd : o.guard = none) (ho : o.op = .call { callee := .builtin .append, args := #[s, x], argTypes := #[t, t] })
    {e : TypeId} {z : Value} {sz by_ : Nat} (ht : P.underlying t = some (.slice e)) (hi0 : (P.info? e).map (fun i => (i.zero, i.size, i.bytes)) = some (some z, sz, by_))
    (hzs : z.cells.size = sz) (hsz : 0 < sz)
    {v : Value} {n base : Nat} {L : List Value} (hown : Own w base e sz v n L) (hs : a.eval s = v)
    {xa : Option Addr} {m c : Nat} {news : List Value} (hx : a.eval x = .slice xa m c) (hnews : Rd w xa (m * sz) news) (h1 : ∀ u ∈ news, u.oneCell' = true)
    (h63 : n + m ≤ maxLen) (hbytes : (n + m) * by_ ≤ 140737488355328) (hbase : base ≤ w.heap.size)
    (h : ∀ v' w', Own w' base e sz v' (n + m) (L ++ news) → Fr (OwnB v) w w' → Kept v n sz w w' → (((∃ x o cap, v = .slice (some ⟨x, o, none⟩) n cap ∧ v' = .slice (some ⟨x, o, none⟩) (n + m) cap) ∨ (m = 0 ∧ v' = v)) ∨ (v'.ownBlock = some w.heap.size ∧ Fr Nob w w')) → wpList P ops Q rest (a.put o.dst v') w') : wpList P ops Q (o :: rest) a w := by
  refine wpList_plain hgd fun K hK => ?_
  obtain ⟨v', w', hr, h2, h3, h4, h5⟩ := run_append3 (P := P) base t o.type e z sz by_ ht hi0 hzs hsz v n L hown xa m c news hnews h1 h63 hbytes hbase
  unfold Oper.wp execOp
  simp only [ho, resolve, invoke, builtin, Sem.run_bind, Sem.run_pure, Result.andThen_ok, List.map_toArray, List.map_cons, List.map_nil, hs, hx, hr]
  exact hK _ _ (h v' w' h2 h3 h4 h5)
end
end Go.Mv
namespace Go.Mv
open Go.RowKit
section
variable {P : Program} {w : World} {ops : Array Oper} {o : Oper} {a : Act} {K : Act → World → Prop} {Q : Exit → Act → World → Prop} {E : Prop}
/-- append(s, x...) inside a region that draws: for the third argument of go_region_held3 -/
theorem step_append {s x : Operand} {t : TypeId} (hgd : o.guard = none) (ho : o.op = .call { callee := .builtin .append, args := #[s, x], argTypes := #[t, t] })
    {e : TypeId} {z : Value} {sz by_ : Nat} (ht : P.underlying t = some (.slice e)) (hi0 : (P.info? e).map (fun i => (i.zero, i.size, i.bytes)) = some (some z, sz, by_))
    (hzs : z.cells.size = sz) (hsz : 0 < sz)
    {v : Value} {n base : Nat} {L : List Value} (hown : Own w base e sz v n L) (hs : a.eval s = v)
    {xa : Option Addr} {m c : Nat} {news : List Value} (hx : a.eval x = .slice xa m c) (hnews : Rd w xa (m * sz) news) (h1 : ∀ u ∈ news, u.oneCell' = true)
    (h63 : n + m ≤ maxLen) (hbytes : (n + m) * by_ ≤ 140737488355328) (hbase : base ≤ w.heap.size)
    (h : ∀ v' w', Own w' base e sz v' (n + m) (L ++ news) → Fr (OwnB v) w w' → K (a.put o.dst v') w') :
    if Region.wanted o (yielded ops a.tmps) = true then Oper.wp P o a w K Q else E := by
  have hw : Region.wanted o (yielded ops a.tmps) = true := by simp [Region.wanted, hgd]
  rw [if_pos hw]
  obtain ⟨v', w', hr, h2, h3, h4⟩ := run_append2 (P := P) base t o.type e z sz by_ ht hi0 hzs hsz v n L hown xa m c news hnews h1 h63 hbytes hbase
  unfold Oper.wp execOp
  simp only [ho, resolve, invoke, builtin, Sem.run_bind, Sem.run_pure, Result.andThen_ok, List.map_toArray, List.map_cons, List.map_nil, hs, hx, hr]
  exact h v' w' h2 h3
end
end Go.Mv

/- An empty slice literal. -/
namespace Go.Mv
open Go.RowKit
variable {P : Program}
theorem wl_slit0 {w : World} {ops : Array Oper} {rest : List Oper} {o : Oper} {a : Act} {Q : Exit → Act → World → Prop} {t e : TypeId} (hgd : o.guard = none) (ho : o.op = .buildSlice t 0 #[])
    (hu : P.underlying t = some (.slice e)) {z : Option Value} {sz by_ : Nat} (hi0 : (P.info? e).map (fun i => (i.zero, i.size, i.bytes)) = some (z, sz, by_))
    (h : ∀ w', Own w' w.heap.size e sz (.slice (some ⟨w.heap.size, 0, none⟩) 0 0) 0 [] → Fr Nob w w' → w'.heap.size = w.heap.size + 1 → wpList P ops Q rest (a.put o.dst (.slice (some ⟨w.heap.size, 0, none⟩) 0 0)) w') : wpList P ops Q (o :: rest) a w := by
  obtain ⟨i, hi, hz0⟩ : ∃ i, P.info? e = some i ∧ (i.zero, i.size, i.bytes) = (z, sz, by_) := by simpa using hi0
  simp only [Prod.mk.injEq] at hz0
  obtain ⟨hz1, hsz, hby⟩ := hz0
  refine wpList_plain hgd fun K hK => ?_
  have hr : (Instr.buildSlice t 0 #[]).run P w = .ok (.slice (some ⟨w.heap.size, 0, none⟩) 0 0) (w.alloc (.cells #[] e)) := by
    simp [Instr.buildSlice, run_underlying hu, sizeOf, typeInfo, hi, Instr.fill, newRow]
    exact congrArg (fun c => w.alloc (Obj.cells c e)) (Array.eq_empty_of_size_eq_zero (by simp))
  unfold Oper.wp execOp
  simp only [ho, Sem.run_bind, List.map_toArray, List.map_nil, hr, Result.andThen_ok]
  refine hK _ _ (h _ ?_ ((Fr.refl _ w).alloc _) (by simp))
  have := Own.made (Has.new w #[] e) w.heap.size (Nat.le_refl _) sz 0 0 (Nat.le_refl _) (by decide) (by simp)
  simpa using this
end Go.Mv
namespace Go.Mv
open Go.RowKit
variable {P : Program}
/-- n rows in a row: a slice literal of structs -/
theorem wl_slitR {w : World} {ops : Array Oper} {rest : List Oper} {o : Oper} {a : Act} {Q : Exit → Act → World → Prop} {t e : TypeId} {k : Nat} {parts : Array (Nat × Operand)} (hgd : o.guard = none) (ho : o.op = .buildSlice t k parts)
    (hu : P.underlying t = some (.slice e)) {z : Value} {sz by_ : Nat} (hi0 : (P.info? e).map (fun i => (i.zero, i.size, i.bytes)) = some (some z, sz, by_)) (vs : List Value) (hp : (parts.toList.map fun p => (p.1, a.eval p.2)) = (vs.zipIdx 0).map fun x => (x.2, x.1))
    (hv : ∀ v ∈ vs, v.cells.size = sz) (hk : vs.length = k) (L : List Value) (hL : (vs.flatMap fun v => v.cells.toList) = L)
    (h : ∀ w', Has w' w.heap.size L e → Fr Nob w w' → w'.heap.size = w.heap.size + 1 → wpList P ops Q rest (a.put o.dst (.slice (some ⟨w.heap.size, 0, none⟩) k k)) w') (hk0 : 0 < k * sz := by decide) (hk24 : k * sz ≤ 16777216 := by decide) : wpList P ops Q (o :: rest) a w := by
  obtain ⟨i, hi, hz0⟩ : ∃ i, P.info? e = some i ∧ (i.zero, i.size, i.bytes) = (some z, sz, by_) := by simpa using hi0
  simp only [Prod.mk.injEq] at hz0
  obtain ⟨hz1, hsz, hby⟩ := hz0
  have hs0 : 0 < sz := Nat.pos_of_mul_pos_left hk0
  have hf : Instr.fill (fun j => some (j * i.size, i.size)) ((Array.range (k * i.size)).map (z.cells[· % z.cells.size]!)) (parts.map fun (i, x) => (i, a.eval x)).toList = some L.toArray := by
    rw [show (parts.map fun (i, x) => (i, a.eval x)).toList = (parts.toList.map fun p => (p.1, a.eval p.2)) by simp, hp, hsz, ← hL]
    exact Great.fill_whole hs0 vs _ hv (by simp [hk])
  exact wpList_buildSlice hgd t e k _ ho _ i _ hu hi hz1 (by rw [hsz]; omega) (by rw [hsz]; omega) hf (h _ (Has.new w L.toArray e) ((Fr.refl _ w).alloc _) (by simp))
end Go.Mv
namespace Go.Mv
open Go.RowKit
variable {P : Program}
theorem wl_index_arr {w : World} {ops : Array Oper} {rest : List Oper} {o : Oper} {a : Act} {Q : Exit → Act → World → Prop} {t e e' : TypeId} {n : Nat} {x i : Operand} (hgd : o.guard = none) (ho : o.op = .index t x i) (ht : P.underlying t = some (.array n e)) (he : P.underlying e = some (.slice e'))
    (hi0 : (P.info? e).map (·.size) = some 1) {cs : Array Value} {ki : IntKind} {k : Nat} {v : Value} (hx : a.eval x = .agg cs) (hi : a.eval i = .int ki (k : Int)) (hk : k < n) (hv : cs[k]? = some v)
    (h : wpList P ops Q rest (a.put o.dst v) w) : wpList P ops Q (o :: rest) a w := by
  obtain ⟨j, hj, hsz⟩ : ∃ j, P.info? e = some j ∧ j.size = 1 := by simpa using hi0
  refine wpList_plain hgd fun K hK => ?_
  have hr : (Instr.index t (.agg cs) (.int ki (k : Int))).run P w = .ok v w := by
    have h1 : (0 : Int) ≤ (k : Int) ∧ (k : Int) < (n : Int) := by omega
    simp [Instr.index, asIntOf, run_underlying ht, sizeOf, typeInfo, hj, hsz, part, isAgg, run_underlying he, h1, hv]
    intro h; omega
  unfold Oper.wp execOp
  simp only [ho, hx, hi, Sem.run_bind, hr, Result.andThen_ok]
  exact hK _ _ h
end Go.Mv

/- num.read: lists of numbers. -/
namespace Go.Mv
open Go.RowKit Mvp
/-- a slice of bytes, and what it reads as -/
def BPart (w : World) (v : Value) (l : List UInt8) : Prop := ∃ a n c, v = .slice a n c ∧ n ≤ c ∧ RdB w a n l
def BParts (w : World) (vs : List Value) (ls : List (List UInt8)) : Prop := vs.length = ls.length ∧ ∀ i v, vs[i]? = some v → BPart w v (ls.getD i [])
theorem BPart.still {w w' : World} {v : Value} {l : List UInt8} (h : BPart w v l) (hf : Fr Nob w w') : BPart w' v l := by
  obtain ⟨a, n, c, e, hc, hr⟩ := h
  exact ⟨a, n, c, e, hc, hr.still hf⟩
theorem BPart.one {w : World} {v : Value} {l : List UInt8} (h : BPart w v l) : v.cells = #[v] := by
  obtain ⟨a, n, c, rfl, -, -⟩ := h
  rfl
theorem BParts.still {w w' : World} {vs : List Value} {ls : List (List UInt8)} (h : BParts w vs ls) (hf : Fr Nob w w') : BParts w' vs ls := ⟨h.1, fun i v hv => (h.2 i v hv).still hf⟩
theorem BParts.one {w : World} {v : Value} {l : List UInt8} (h : BPart w v l) : BParts w [v] [l] := ⟨rfl, fun i u hu => by
  cases i with
  | zero => simp at hu; subst hu; exact h
  | succ i => simp at hu⟩
theorem BParts.two {w : World} {v u : Value} {l k : List UInt8} (h : BPart w v l) (h2 : BPart w u k) : BParts w [v, u] [l, k] := ⟨rfl, fun i x hx => by
  match i with
  | 0 => simp at hx; subst hx; exact h
  | 1 => simp at hx; subst hx; exact h2
  | i + 2 => simp at hx⟩
end Go.Mv
namespace Mvp
/-- is it a number of the modulus? -/
def numB (m : Md) (l : List UInt8) : Bool := decide (l.length = 32) && decide (beN l < m.M)
def numsB (m : Md) (ls : List (List UInt8)) : Bool := ls.all (numB m)
/-- the elements of a list of numbers, as cells -/
def elCells (m : Md) (ls : List (List UInt8)) : List Go.Value := ls.flatMap fun l => Go.Mv.cw 4 (elN m (beN l))
theorem elCells_len (m : Md) (ls : List (List UInt8)) : (elCells m ls).length = ls.length * 4 := by
  induction ls with
  | nil => rfl
  | cons l ls ih => rw [elCells, List.flatMap_cons, List.length_append, Go.Mv.cw_len, ← elCells, ih, List.length_cons]; omega
theorem elCells_snoc (m : Md) (ls : List (List UInt8)) (l : List UInt8) : elCells m (ls ++ [l]) = elCells m ls ++ Go.Mv.cw 4 (elN m (beN l)) := by
  simp [elCells]
theorem elCells_at (m : Md) (ls : List (List UInt8)) (i : Nat) (h : i < ls.length) : ((elCells m ls).drop (i * 4)).take 4 = Go.Mv.cw 4 (elN m (beN (ls.getD i []))) := by
  induction ls generalizing i with
  | nil => simp at h
  | cons l ls ih =>
    rw [elCells, List.flatMap_cons, ← elCells]
    cases i with
    | zero =>
      rw [Nat.zero_mul, List.drop_zero, List.take_append_of_le_length (by rw [Go.Mv.cw_len]; exact Nat.le_refl _), List.take_of_length_le (by rw [Go.Mv.cw_len]; exact Nat.le_refl _)]
      rfl
    | succ i =>
      rw [List.drop_append, Go.Mv.cw_len, List.drop_of_length_le (by rw [Go.Mv.cw_len]; omega), List.nil_append, show (i + 1) * 4 - 4 = i * 4 by omega, ih i (by simpa using h)]
      rfl
theorem numsB_take (m : Md) (ls : List (List UInt8)) (k : Nat) (h : k < ls.length) : numsB m (ls.take (k + 1)) = (numsB m (ls.take k) && numB m (ls.getD k [])) := by
  rw [List.take_succ_eq_append_getElem h, numsB, List.all_append, ← numsB]
  simp [List.getD_eq_getElem?_getD, h]
theorem numsB_bad (m : Md) (ls : List (List UInt8)) (k : Nat) (h : k < ls.length) (hb : numB m (ls.getD k []) = false) : numsB m ls = false := by
  rw [numsB, List.all_eq_false]
  refine ⟨ls.getD k [], ?_, by simpa using hb⟩
  rw [List.getD_eq_getElem?_getD, List.getElem?_eq_getElem h]
  exact List.getElem_mem h
end Mvp
namespace Go.Proofs.Ytmegaegedlbckaa
open Go.RowKit Go.Mv Mvp
theorem info_el : (Try.prog.info? 81).map (fun i => (i.zero, i.size, i.bytes)) = some (some (.agg #[.int .u64 0, .int .u64 0, .int .u64 0, .int .u64 0]), 4, 32) := by kernel_rfl
/-- how num.read answers -/
def ReadPost (m : Md) (ls : List (List UInt8)) (w : World) (e : Ending) (w' : World) : Prop :=
  (numsB m ls = true → ∃ v, e = .returned (.tuple #[v, .bool true]) ∧ Own w' w.heap.size 81 4 v ls.length (elCells m ls)) ∧
  (numsB m ls = false → e = .returned (.tuple #[.slice none 0 0, .bool false])) ∧ Fr Nob w w'
theorem ReadPost.bad {m : Md} {ls : List (List UInt8)} {w w' : World} {e : Ending} (h : numsB m ls = false) (he : e = .returned (.tuple #[.slice none 0 0, .bool false])) (hf : Fr Nob w w') : ReadPost m ls w e w' :=
  ⟨fun h1 => (by rw [h] at h1; cases h1), fun _ => he, hf⟩
theorem ReadPost.good {m : Md} {ls : List (List UInt8)} {w w' : World} {e : Ending} {v : Value} (h : numsB m ls = true) (he : e = .returned (.tuple #[v, .bool true])) (ho : Own w' w.heap.size 81 4 v ls.length (elCells m ls)) (hf : Fr Nob w w') : ReadPost m ls w e w' :=
  ⟨fun _ => ⟨v, he, ho⟩, fun h1 => (by rw [h] at h1; cases h1), hf⟩
attribute [local irreducible] limbs lw mix cw cSub cAdd cMul foldC valFrom beN laid be32 powm montT mstep elN mdL elCells numsB numB

set_option maxHeartbeats 8000000 in
set_option maxRecDepth 1000000 in
theorem read_any (m : Md) (gp : Nat) (al : Option Addr) (n cl : Nat) (vs : List Value) (ls : List (List UInt8)) (w : World) (hok : m.Ok) (hpm : Has w gp (mdL m) 68)
    (hv : Rd w al n vs) (hp : BParts w vs ls) (hn : n ≤ 100000) :
    Calls Try.prog 43 #[.pointer (some ⟨gp, 0, none⟩), .slice al n cl] w (ReadPost m ls w) := by
  have HOK := Lib.hid hok
  have HPM := Lib.hid hpm
  have HV := Lib.hid hv
  have HP := Lib.hid hp
  have HL := Lib.hid (show ls.length = n by rw [← hp.1, hv.len])
  clear hok hpm hv hp
  go_enter Try.func43, Try.ntmps43
  go_wp2
  go_loopw [6, 12] (fun v i wr => ∃ k : Nat, k ≤ n ∧ i = .int .i64 (k : Int) ∧ numsB m (ls.take k) = true ∧ Own wr w.heap.size 81 4 v k (elCells m (ls.take k)) ∧ Fr Nob w wr) (fun _ i _ => n - (intOf i).toNat)
  case atStart => exact ⟨0, Nat.zero_le _, rfl, by rw [List.take_zero]; unfold numsB; rfl, by rw [List.take_zero]; unfold elCells; exact Own.nil _ _ _ _, Fr.refl _ _⟩
  case round =>
    obtain ⟨k, hk, rfl, hgood, hown, hf⟩ := hrel
    by_cases hlt : k < n
    · have hltI : (k : Int) < (n : Int) := by omega
      obtain ⟨b, o, rfl, hat⟩ := (HV.out.still hf).at (by omega)
      have hvl : k < vs.length := by rw [HV.out.len]; exact hlt
      obtain ⟨a, nn, c, hve, hcc, hrd⟩ := HP.out.2 k (vs[k]'hvl) (List.getElem?_eq_getElem hvl)
      have hc1 := hat k _ (List.getElem?_eq_getElem hvl)
      rw [hve] at hc1
      have hlk : k < ls.length := by rw [HL.out]; exact hlt
      have hlen := hrd.len
      have hts := numsB_take m ls k hlk
      have hcs : elCells m (ls.take (k + 1)) = elCells m (ls.take k) ++ cw 4 (elN m (beN (ls.getD k []))) := by
        rw [List.take_succ_eq_append_getElem hlk, elCells_snoc]
        simp [List.getD_eq_getElem?_getD, hlk]
      have hbad := numsB_bad m ls k hlk
      generalize hL : ls.getD k [] = l at *
      have HLL := Lib.hid hL
      have HRD := Lib.hid (hrd.still hf)
      have HTS := Lib.hid hts
      have HCS := Lib.hid hcs
      have HBAD := Lib.hid hbad
      have HLEN := Lib.hid hlen
      have HG := Lib.hid hgood
      have HOWN := Lib.hid hown
      have HF := Lib.hid hf
      have hnI : (n : Int) ≤ 100000 := by omega
      clear hL hrd hts hcs hbad hlen hgood hown hf hat hve hcc
      by_cases h32 : nn = 32
      · subst h32
        have hne : (((32 : Nat) : Int) != 32) = false := by rfl
        have hbl := beN_le32 l (by rw [HLEN.out]; exact Nat.le_refl _)
        have HBL := Lib.hid hbl
        have HPMr := Lib.hid (HPM.out.keep HF.out id)
        have st0 := St.start Nob wr
        clear hbl
        go_wp2_with fail
        refine (FromBytes_any a 32 c l _ (HRD.out.still st0.fr) (by decide)).mono ?_
        rintro e' w1 ⟨rfl, hf1⟩
        have st1 := st0.keep hf1
        clear st0 hf1
        go_wp2_with (with_reducible refine wl_stop (o := ⟨some 9, _, _, _, _, _⟩) ?_)
        refine wl_allocS st1 rfl rfl (z := .agg #[.int .u64 0, .int .u64 0, .int .u64 0, .int .u64 0]) (by kernel_rfl) (cw 4 0) (by rw [cw_zero]; rfl) ?_
        intro g9 w2 st2
        clear st1
        go_wp2_with (with_reducible refine wl_stop (o := ⟨none, _, _, _, _, _⟩) ?_)
        refine wl_storeS st2 0 rfl rfl rfl rfl rfl (by first | (simp only [cw_len]; done) | (simp only [List.length_append, cw_len]; done)) (by first | (rw [cw_len]; kernel_rfl) | (simp only [List.length_append, cw_len]; kernel_rfl)) (cw_one _ _) ?_
        intro w3 st3
        clear st2
        go_wp2_with fail
        refine wp_region_noPanic ?_
        refine wp_region_plan (fun wx => St Nob wr wx [(g9, cw 4 (beN l), 66)]) 6 (.t 0 (.w 1 (.w 2 (.w 3 (.t 4 (.r 5 (.m 6 .nil))))))) (by kernel_rfl) (by kernel_rfl) st3.drew (fun _ _ _ _ _ h => h) ?_
        have hd3 := st3.drew
        clear st3
        refine plan_arr rfl rfl rfl rfl (cw 4 (beN l)) (fun wx hS => St.rangeL hS 0 rfl 0 _ (by rw [List.drop_zero, List.take_of_length_le (Nat.le_refl _)])) Try.underlying66 rfl (by first | (rw [cw_len]; kernel_rfl) | (simp only [List.length_append, cw_len]; kernel_rfl)) ?_
        try simp only [Act.put, List.setIfInBounds_toArray, List.set_cons_zero, List.set_cons_succ]
        refine plan_w (v := ?_) rfl rfl (fun wx => ?_) ?_
        rotate_left 1
        · (go_simp; with_reducible rfl)
        try simp only [Act.put, List.setIfInBounds_toArray, List.set_cons_zero, List.set_cons_succ]
        refine plan_w (v := ?_) rfl rfl (fun wx => ?_) ?_
        rotate_left 1
        · (go_simp; with_reducible rfl)
        try simp only [Act.put, List.setIfInBounds_toArray, List.set_cons_zero, List.set_cons_succ]
        refine plan_w (v := ?_) rfl rfl (fun wx => ?_) ?_
        rotate_left 1
        · (go_simp; with_reducible rfl)
        try simp only [Act.put, List.setIfInBounds_toArray, List.set_cons_zero, List.set_cons_succ]
        refine plan_arr rfl rfl rfl rfl (cw 4 m.M) (fun wx hS => (HPMr.out.keep (St.fr hS) id).range 0 _ (md_M m)) Try.underlying66 rfl (by first | (rw [cw_len]; kernel_rfl) | (simp only [List.length_append, cw_len]; kernel_rfl)) ?_
        try simp only [Act.put, List.setIfInBounds_toArray, List.set_cons_zero, List.set_cons_succ]
        refine plan_r rfl rfl ?_
        go_simp
        refine (MLess_any (beN l) m.M _ HBL.out HOK.out.lt).mono ?_
        rintro e' w4 ⟨rfl, hf4⟩
        have st4 := hd3.keep hf4
        clear hf4
        clear hd3
        refine ⟨st4, ?_⟩
        try simp only [Act.put, List.setIfInBounds_toArray, List.set_cons_zero, List.set_cons_succ]
        refine plan_m rfl rfl ?_
        go_simp
        try simp only [Act.put, List.setIfInBounds_toArray, List.set_cons_zero, List.set_cons_succ]
        refine plan_end ?_
        refine NoPanic.normal ?_
        by_cases hlt2 : beN l < m.M
        · have hd := decide_eq_true hlt2
          have hnb : numB m l = true := by unfold numB; rw [decide_eq_true HLEN.out, hd]; rfl
          have HNB := Lib.hid hnb
          rw [hd]
          clear hd hlt2 hnb hne hc1
          go_wp2_with (with_reducible refine wl_stop (o := ⟨some 30, _, _, _, _, _⟩) ?_)
          refine wl_loadS st4 0 rfl rfl rfl Try.underlying66 rfl (by first | (rw [cw_len]; kernel_rfl) | (simp only [List.length_append, cw_len]; kernel_rfl)) ?_
          go_wp2_with fail
          refine (MTo_any m gp _ HOK.out (HPMr.out.keep st4.fr id) (beN l) HBL.out).mono ?_
          rintro e' w5 ⟨rfl, hf5⟩
          have st5 := st4.keep hf5
          clear st4 hf5
          go_wp2_with (with_reducible refine wl_stop (o := ⟨some 32, _, _, _, _, _⟩) ?_)
          refine wl_slitR rfl rfl Try.underlying78 info_el [i4 (elN m (beN l))] rfl (by simp [i4, Value.cells, cw_len]) rfl (cw 4 (elN m (beN l))) (by simp [i4_cells]) ?_
          intro wA hgA hfA hzA
          clear hzA
          have hfrA := st5.fr.then hfA
          have hsz := HF.out.size
          have hsz2 := hfrA.size
          have hownA := HOWN.out.still hfrA
          have hrdA : Rd wA (some ⟨w5.heap.size, 0, none⟩) (1 * 4) (cw 4 (elN m (beN l))) := by
            have := Rd.whole hgA
            rwa [cw_len] at this
          have HRDA := Lib.hid hrdA
          have HOWNA := Lib.hid hownA
          have HFRA := Lib.hid hfrA
          clear hgA hfA hrdA hownA hfrA st5
          generalize w5.heap.size = gA at *
          go_wp2_with (with_reducible refine wl_stop (o := ⟨some 33, _, _, _, _, _⟩) ?_)
          refine wl_append rfl rfl Try.underlying78 info_el rfl (by decide) HOWNA.out rfl rfl HRDA.out (cw_one _ _) (by unfold maxLen; omega) (by omega) (by omega) ?_
          intro vB wB hownB hfB hbB
          clear hbB
          have hfrB := HOWNA.out.fr (HF.out.then HFRA.out) (Nat.le_refl _) hfB
          have HFRB := Lib.hid hfrB
          rw [← HCS.out] at hownB
          have HOWNB := Lib.hid hownB
          clear hfrB hownB hfB
          go_wp2_with fail
          go_roundw
          case rel => exact ⟨k + 1, by omega, by go_num, by rw [HTS.out, HG.out, HNB.out]; rfl, HOWNB.out, HFRB.out⟩
          case measure => simp [intOf]; omega
        · have hd := decide_eq_false hlt2
          have hnb : numsB m ls = false := HBAD.out (by unfold numB; rw [hd]; simp)
          have HNB := Lib.hid hnb
          rw [hd]
          have HFR := Lib.hid (HF.out.then st4.fr)
          clear hd hlt2 hnb hne hc1 st4
          go_wp2_with fail
          go_ret2
          exact ReadPost.bad HNB.out rfl HFR.out
      · have hne : ((nn : Int) != 32) = true := by simp; omega
        have hnb : numsB m ls = false := HBAD.out (by unfold numB; rw [HLEN.out, decide_eq_false h32]; rfl)
        have HNB := Lib.hid hnb
        clear hnb h32
        go_wp2_with fail
        go_ret2
        exact ReadPost.bad HNB.out rfl HF.out
    · have hge : ¬ ((k : Int) < (n : Int)) := by omega
      have hkn : k = ls.length := by rw [HL.out]; omega
      rw [hkn, List.take_of_length_le (Nat.le_refl _)] at hgood hown
      have HG := Lib.hid hgood
      have HO := Lib.hid hown
      have HF := Lib.hid hf
      clear hkn hgood hown hf
      go_wp2_with fail
      go_ret2
      exact ReadPost.good HG.out rfl HO.out HF.out
end Go.Proofs.Ytmegaegedlbckaa

/- num.reckon, over an operation's contract. -/
namespace Go.Proofs.Ytmegaegedlbckaa
open Go.RowKit Go.Mv Mvp
attribute [local irreducible] limbs lw mix cw cSub cAdd cMul foldC valFrom beN laid be32 powm montT mstep elN mdL elCells numsB numB

set_option maxHeartbeats 8000000 in
set_option maxRecDepth 1000000 in
theorem reckon_two_ok (k : Int) (m : Md) (hk : KindOf k m) (gc : Nat) (al : Option Addr) (n cl : Nat) (vs : List Value) (ls : List (List UInt8)) (w : World) (hv : Rd w al n vs) (hp : BParts w vs ls) (hn : n ≤ 100000) (hg : numsB m ls = true) (x : Nat)
    (hop : ∀ gp ae ce wx, Fr Nob w wx → Has wx gp (mdL m) 68 → Rd wx ae (ls.length * 4) (elCells m ls) → Calls Try.prog 73 #[.pointer (some ⟨gp, 0, none⟩), .slice ae ls.length ce, .pointer (some ⟨gc, 0, none⟩)] wx fun e w' => e = .returned (.tuple #[i4 (elN m x), .bool true]) ∧ Fr Nob wx w') :
    Calls Try.prog 49 #[.int .i64 k, .func (.func 73) #[] #[.pointer (some ⟨gc, 0, none⟩)], .slice al n cl] w fun e w' => ∃ v, e = .returned (.tuple #[v, .int .i64 0]) ∧ Own w' w.heap.size 5 1 v 32 (bs (be32 (x % m.M))) ∧ Fr Nob w w' := by
  have HK := Lib.hid hk
  have HV := Lib.hid hv
  have HP := Lib.hid hp
  have HG := Lib.hid hg
  have HOP := Lib.hid hop
  clear hk hv hp hg hop
  go_enter Try.func49, Try.ntmps49
  go_wp2_with fail
  refine (OfK HK.out _).mono ?_
  rintro e w1 ⟨gp, rfl, hgg, hm, hf⟩
  clear hgg
  have HM := Lib.hid hm
  have HF := Lib.hid hf
  clear hm hf
  go_wp2_with fail
  refine (read_any m gp al n cl vs ls _ HK.out.ok HM.out (HV.out.still HF.out) (HP.out.still HF.out) hn).mono ?_
  rintro e w2 ⟨hgood, -, hf2⟩
  obtain ⟨v, rfl, hown⟩ := hgood HG.out
  obtain ⟨ae, ce, rfl, -, hre, -⟩ := hown.form
  have HRE := Lib.hid hre
  have HM2 := Lib.hid (HM.out.keep hf2 id)
  have HF2 := Lib.hid (HF.out.then hf2)
  clear hgood hown hre hf2
  go_wp2_with fail
  refine (HOP.out gp ae ce _ HF2.out HM2.out HRE.out).mono ?_
  rintro e w3 ⟨rfl, hf3⟩
  have HM3 := Lib.hid (HM2.out.keep hf3 id)
  have HF3 := Lib.hid (HF2.out.then hf3)
  have st0 := St.start Nob w3
  clear hf3
  go_wp2_with (with_reducible refine wl_stop (o := ⟨some 11, _, _, _, _, _⟩) ?_)
  refine wl_allocS st0 rfl rfl (z := .agg #[.int .u64 0, .int .u64 0, .int .u64 0, .int .u64 0]) (by kernel_rfl) (cw 4 0) (by rw [cw_zero]; rfl) ?_
  intro g11 w4 st1
  clear st0
  go_wp2_with (with_reducible refine wl_stop (o := ⟨none, _, _, _, _, _⟩) ?_)
  refine wl_storeS st1 0 rfl rfl rfl rfl (cs := cw 4 (elN m x)) rfl (by rw [cw_len, cw_len]) (by rw [cw_len]; kernel_rfl) (cw_one _ _) ?_
  intro w5 st2
  clear st1
  go_wp2_with (with_reducible refine wl_stop (o := ⟨some 37, _, _, _, _, _⟩) ?_)
  refine wl_loadS st2 0 rfl rfl rfl Try.underlying81 rfl (by rw [cw_len]; kernel_rfl) ?_
  have HM5 := Lib.hid (HM3.out.keep st2.fr id)
  have HF5 := Lib.hid (HF3.out.then st2.fr)
  clear st2
  go_wp2_with fail
  refine (MFrom_any m gp _ HK.out.ok HM5.out x).mono ?_
  rintro e w6 ⟨rfl, hf6⟩
  have HF6 := Lib.hid (HF5.out.then hf6)
  clear hf6
  go_wp2_with fail
  refine (MBytes_any (x % m.M) _).mono ?_
  rintro e w7 ⟨v, rfl, hown7, hf7⟩
  have h2 := HF6.out.then hf7
  have ho := hown7.mono HF6.out.size
  clear hown7 hf7 HF6 HF5 HM5 HF3 HM3 HF2 HM2 HRE HM HF
  go_wp2_with fail
  go_ret2
  exact ⟨v, rfl, ho, h2⟩
set_option maxHeartbeats 8000000 in
set_option maxRecDepth 1000000 in
theorem reckon_two_bad (k : Int) (m : Md) (hk : KindOf k m) (gc : Nat) (al : Option Addr) (n cl : Nat) (vs : List Value) (ls : List (List UInt8)) (w : World) (hv : Rd w al n vs) (hp : BParts w vs ls) (hn : n ≤ 100000) (hg : numsB m ls = false) :
    Calls Try.prog 49 #[.int .i64 k, .func (.func 73) #[] #[.pointer (some ⟨gc, 0, none⟩)], .slice al n cl] w fun e w' => e = .returned (.tuple #[.slice none 0 0, .int .i64 3]) ∧ Fr Nob w w' := by
  have HK := Lib.hid hk
  have HV := Lib.hid hv
  have HP := Lib.hid hp
  have HG := Lib.hid hg
  clear hk hv hp hg
  go_enter Try.func49, Try.ntmps49
  go_wp2_with fail
  refine (OfK HK.out _).mono ?_
  rintro e w1 ⟨gp, rfl, hgg, hm, hf⟩
  clear hgg
  have HM := Lib.hid hm
  have HF := Lib.hid hf
  clear hm hf
  go_wp2_with fail
  refine (read_any m gp al n cl vs ls _ HK.out.ok HM.out (HV.out.still HF.out) (HP.out.still HF.out) hn).mono ?_
  rintro e w2 ⟨-, hbad, hf2⟩
  obtain rfl := hbad HG.out
  have HF2 := Lib.hid (HF.out.then hf2)
  clear hbad hf2
  go_wp2_with fail
  go_ret2
  exact ⟨rfl, HF2.out⟩
set_option maxHeartbeats 8000000 in
set_option maxRecDepth 1000000 in
theorem reckon_two_x (k : Int) (gc : Nat) (v : Value) (w : World) (h0 : (k == 0) = false) (h1 : (k == 1) = false) :
    Calls Try.prog 49 #[.int .i64 k, .func (.func 73) #[] #[.pointer (some ⟨gc, 0, none⟩)], v] w fun e w' => e = .returned (.tuple #[.slice none 0 0, .int .i64 2]) ∧ w = w' := by
  have H0 := Lib.hid h0
  have H1 := Lib.hid h1
  clear h0 h1
  go_enter Try.func49, Try.ntmps49
  go_wp2_with fail
  refine (Of2 k _ H0.out H1.out).mono ?_
  rintro e w1 ⟨rfl, rfl⟩
  go_wp2_with fail
  go_ret2
  exact ⟨rfl, rfl⟩

set_option maxHeartbeats 8000000 in
set_option maxRecDepth 1000000 in
theorem reckon_inv_ok (k : Int) (m : Md) (hk : KindOf k m) (al : Option Addr) (n cl : Nat) (vs : List Value) (ls : List (List UInt8)) (w : World) (hv : Rd w al n vs) (hp : BParts w vs ls) (hn : n ≤ 100000) (hg : numsB m ls = true) (x : Nat)
    (hop : ∀ gp ae ce wx, Fr Nob w wx → Has wx gp (mdL m) 68 → Rd wx ae (ls.length * 4) (elCells m ls) → Calls Try.prog 52 #[.pointer (some ⟨gp, 0, none⟩), .slice ae ls.length ce] wx fun e w' => e = .returned (.tuple #[i4 (elN m x), .bool true]) ∧ Fr Nob wx w') :
    Calls Try.prog 49 #[.int .i64 k, .func (.func 52) #[] #[], .slice al n cl] w fun e w' => ∃ v, e = .returned (.tuple #[v, .int .i64 0]) ∧ Own w' w.heap.size 5 1 v 32 (bs (be32 (x % m.M))) ∧ Fr Nob w w' := by
  have HK := Lib.hid hk
  have HV := Lib.hid hv
  have HP := Lib.hid hp
  have HG := Lib.hid hg
  have HOP := Lib.hid hop
  clear hk hv hp hg hop
  go_enter Try.func49, Try.ntmps49
  go_wp2_with fail
  refine (OfK HK.out _).mono ?_
  rintro e w1 ⟨gp, rfl, hgg, hm, hf⟩
  clear hgg
  have HM := Lib.hid hm
  have HF := Lib.hid hf
  clear hm hf
  go_wp2_with fail
  refine (read_any m gp al n cl vs ls _ HK.out.ok HM.out (HV.out.still HF.out) (HP.out.still HF.out) hn).mono ?_
  rintro e w2 ⟨hgood, -, hf2⟩
  obtain ⟨v, rfl, hown⟩ := hgood HG.out
  obtain ⟨ae, ce, rfl, -, hre, -⟩ := hown.form
  have HRE := Lib.hid hre
  have HM2 := Lib.hid (HM.out.keep hf2 id)
  have HF2 := Lib.hid (HF.out.then hf2)
  clear hgood hown hre hf2
  go_wp2_with fail
  refine (HOP.out gp ae ce _ HF2.out HM2.out HRE.out).mono ?_
  rintro e w3 ⟨rfl, hf3⟩
  have HM3 := Lib.hid (HM2.out.keep hf3 id)
  have HF3 := Lib.hid (HF2.out.then hf3)
  have st0 := St.start Nob w3
  clear hf3
  go_wp2_with (with_reducible refine wl_stop (o := ⟨some 11, _, _, _, _, _⟩) ?_)
  refine wl_allocS st0 rfl rfl (z := .agg #[.int .u64 0, .int .u64 0, .int .u64 0, .int .u64 0]) (by kernel_rfl) (cw 4 0) (by rw [cw_zero]; rfl) ?_
  intro g11 w4 st1
  clear st0
  go_wp2_with (with_reducible refine wl_stop (o := ⟨none, _, _, _, _, _⟩) ?_)
  refine wl_storeS st1 0 rfl rfl rfl rfl (cs := cw 4 (elN m x)) rfl (by rw [cw_len, cw_len]) (by rw [cw_len]; kernel_rfl) (cw_one _ _) ?_
  intro w5 st2
  clear st1
  go_wp2_with (with_reducible refine wl_stop (o := ⟨some 37, _, _, _, _, _⟩) ?_)
  refine wl_loadS st2 0 rfl rfl rfl Try.underlying81 rfl (by rw [cw_len]; kernel_rfl) ?_
  have HM5 := Lib.hid (HM3.out.keep st2.fr id)
  have HF5 := Lib.hid (HF3.out.then st2.fr)
  clear st2
  go_wp2_with fail
  refine (MFrom_any m gp _ HK.out.ok HM5.out x).mono ?_
  rintro e w6 ⟨rfl, hf6⟩
  have HF6 := Lib.hid (HF5.out.then hf6)
  clear hf6
  go_wp2_with fail
  refine (MBytes_any (x % m.M) _).mono ?_
  rintro e w7 ⟨v, rfl, hown7, hf7⟩
  have h2 := HF6.out.then hf7
  have ho := hown7.mono HF6.out.size
  clear hown7 hf7 HF6 HF5 HM5 HF3 HM3 HF2 HM2 HRE HM HF
  go_wp2_with fail
  go_ret2
  exact ⟨v, rfl, ho, h2⟩
set_option maxHeartbeats 8000000 in
set_option maxRecDepth 1000000 in
theorem reckon_inv_bad (k : Int) (m : Md) (hk : KindOf k m) (al : Option Addr) (n cl : Nat) (vs : List Value) (ls : List (List UInt8)) (w : World) (hv : Rd w al n vs) (hp : BParts w vs ls) (hn : n ≤ 100000) (hg : numsB m ls = false) :
    Calls Try.prog 49 #[.int .i64 k, .func (.func 52) #[] #[], .slice al n cl] w fun e w' => e = .returned (.tuple #[.slice none 0 0, .int .i64 3]) ∧ Fr Nob w w' := by
  have HK := Lib.hid hk
  have HV := Lib.hid hv
  have HP := Lib.hid hp
  have HG := Lib.hid hg
  clear hk hv hp hg
  go_enter Try.func49, Try.ntmps49
  go_wp2_with fail
  refine (OfK HK.out _).mono ?_
  rintro e w1 ⟨gp, rfl, hgg, hm, hf⟩
  clear hgg
  have HM := Lib.hid hm
  have HF := Lib.hid hf
  clear hm hf
  go_wp2_with fail
  refine (read_any m gp al n cl vs ls _ HK.out.ok HM.out (HV.out.still HF.out) (HP.out.still HF.out) hn).mono ?_
  rintro e w2 ⟨-, hbad, hf2⟩
  obtain rfl := hbad HG.out
  have HF2 := Lib.hid (HF.out.then hf2)
  clear hbad hf2
  go_wp2_with fail
  go_ret2
  exact ⟨rfl, HF2.out⟩
set_option maxHeartbeats 8000000 in
set_option maxRecDepth 1000000 in
theorem reckon_inv_x (k : Int) (v : Value) (w : World) (h0 : (k == 0) = false) (h1 : (k == 1) = false) :
    Calls Try.prog 49 #[.int .i64 k, .func (.func 52) #[] #[], v] w fun e w' => e = .returned (.tuple #[.slice none 0 0, .int .i64 2]) ∧ w = w' := by
  have H0 := Lib.hid h0
  have H1 := Lib.hid h1
  clear h0 h1
  go_enter Try.func49, Try.ntmps49
  go_wp2_with fail
  refine (Of2 k _ H0.out H1.out).mono ?_
  rintro e w1 ⟨rfl, rfl⟩
  go_wp2_with fail
  go_ret2
  exact ⟨rfl, rfl⟩

set_option maxHeartbeats 8000000 in
set_option maxRecDepth 1000000 in
theorem reckon_sqrt_ok (k : Int) (m : Md) (hk : KindOf k m) (al : Option Addr) (n cl : Nat) (vs : List Value) (ls : List (List UInt8)) (w : World) (hv : Rd w al n vs) (hp : BParts w vs ls) (hn : n ≤ 100000) (hg : numsB m ls = true) (x : Nat)
    (hop : ∀ gp ae ce wx, Fr Nob w wx → Has wx gp (mdL m) 68 → Rd wx ae (ls.length * 4) (elCells m ls) → Calls Try.prog 59 #[.pointer (some ⟨gp, 0, none⟩), .slice ae ls.length ce] wx fun e w' => e = .returned (.tuple #[i4 (elN m x), .bool true]) ∧ Fr Nob wx w') :
    Calls Try.prog 49 #[.int .i64 k, .func (.func 59) #[] #[], .slice al n cl] w fun e w' => ∃ v, e = .returned (.tuple #[v, .int .i64 0]) ∧ Own w' w.heap.size 5 1 v 32 (bs (be32 (x % m.M))) ∧ Fr Nob w w' := by
  have HK := Lib.hid hk
  have HV := Lib.hid hv
  have HP := Lib.hid hp
  have HG := Lib.hid hg
  have HOP := Lib.hid hop
  clear hk hv hp hg hop
  go_enter Try.func49, Try.ntmps49
  go_wp2_with fail
  refine (OfK HK.out _).mono ?_
  rintro e w1 ⟨gp, rfl, hgg, hm, hf⟩
  clear hgg
  have HM := Lib.hid hm
  have HF := Lib.hid hf
  clear hm hf
  go_wp2_with fail
  refine (read_any m gp al n cl vs ls _ HK.out.ok HM.out (HV.out.still HF.out) (HP.out.still HF.out) hn).mono ?_
  rintro e w2 ⟨hgood, -, hf2⟩
  obtain ⟨v, rfl, hown⟩ := hgood HG.out
  obtain ⟨ae, ce, rfl, -, hre, -⟩ := hown.form
  have HRE := Lib.hid hre
  have HM2 := Lib.hid (HM.out.keep hf2 id)
  have HF2 := Lib.hid (HF.out.then hf2)
  clear hgood hown hre hf2
  go_wp2_with fail
  refine (HOP.out gp ae ce _ HF2.out HM2.out HRE.out).mono ?_
  rintro e w3 ⟨rfl, hf3⟩
  have HM3 := Lib.hid (HM2.out.keep hf3 id)
  have HF3 := Lib.hid (HF2.out.then hf3)
  have st0 := St.start Nob w3
  clear hf3
  go_wp2_with (with_reducible refine wl_stop (o := ⟨some 11, _, _, _, _, _⟩) ?_)
  refine wl_allocS st0 rfl rfl (z := .agg #[.int .u64 0, .int .u64 0, .int .u64 0, .int .u64 0]) (by kernel_rfl) (cw 4 0) (by rw [cw_zero]; rfl) ?_
  intro g11 w4 st1
  clear st0
  go_wp2_with (with_reducible refine wl_stop (o := ⟨none, _, _, _, _, _⟩) ?_)
  refine wl_storeS st1 0 rfl rfl rfl rfl (cs := cw 4 (elN m x)) rfl (by rw [cw_len, cw_len]) (by rw [cw_len]; kernel_rfl) (cw_one _ _) ?_
  intro w5 st2
  clear st1
  go_wp2_with (with_reducible refine wl_stop (o := ⟨some 37, _, _, _, _, _⟩) ?_)
  refine wl_loadS st2 0 rfl rfl rfl Try.underlying81 rfl (by rw [cw_len]; kernel_rfl) ?_
  have HM5 := Lib.hid (HM3.out.keep st2.fr id)
  have HF5 := Lib.hid (HF3.out.then st2.fr)
  clear st2
  go_wp2_with fail
  refine (MFrom_any m gp _ HK.out.ok HM5.out x).mono ?_
  rintro e w6 ⟨rfl, hf6⟩
  have HF6 := Lib.hid (HF5.out.then hf6)
  clear hf6
  go_wp2_with fail
  refine (MBytes_any (x % m.M) _).mono ?_
  rintro e w7 ⟨v, rfl, hown7, hf7⟩
  have h2 := HF6.out.then hf7
  have ho := hown7.mono HF6.out.size
  clear hown7 hf7 HF6 HF5 HM5 HF3 HM3 HF2 HM2 HRE HM HF
  go_wp2_with fail
  go_ret2
  exact ⟨v, rfl, ho, h2⟩
set_option maxHeartbeats 8000000 in
set_option maxRecDepth 1000000 in
theorem reckon_sqrt_bad (k : Int) (m : Md) (hk : KindOf k m) (al : Option Addr) (n cl : Nat) (vs : List Value) (ls : List (List UInt8)) (w : World) (hv : Rd w al n vs) (hp : BParts w vs ls) (hn : n ≤ 100000) (hg : numsB m ls = false) :
    Calls Try.prog 49 #[.int .i64 k, .func (.func 59) #[] #[], .slice al n cl] w fun e w' => e = .returned (.tuple #[.slice none 0 0, .int .i64 3]) ∧ Fr Nob w w' := by
  have HK := Lib.hid hk
  have HV := Lib.hid hv
  have HP := Lib.hid hp
  have HG := Lib.hid hg
  clear hk hv hp hg
  go_enter Try.func49, Try.ntmps49
  go_wp2_with fail
  refine (OfK HK.out _).mono ?_
  rintro e w1 ⟨gp, rfl, hgg, hm, hf⟩
  clear hgg
  have HM := Lib.hid hm
  have HF := Lib.hid hf
  clear hm hf
  go_wp2_with fail
  refine (read_any m gp al n cl vs ls _ HK.out.ok HM.out (HV.out.still HF.out) (HP.out.still HF.out) hn).mono ?_
  rintro e w2 ⟨-, hbad, hf2⟩
  obtain rfl := hbad HG.out
  have HF2 := Lib.hid (HF.out.then hf2)
  clear hbad hf2
  go_wp2_with fail
  go_ret2
  exact ⟨rfl, HF2.out⟩
set_option maxHeartbeats 8000000 in
set_option maxRecDepth 1000000 in
theorem reckon_sqrt_x (k : Int) (v : Value) (w : World) (h0 : (k == 0) = false) (h1 : (k == 1) = false) :
    Calls Try.prog 49 #[.int .i64 k, .func (.func 59) #[] #[], v] w fun e w' => e = .returned (.tuple #[.slice none 0 0, .int .i64 2]) ∧ w = w' := by
  have H0 := Lib.hid h0
  have H1 := Lib.hid h1
  clear h0 h1
  go_enter Try.func49, Try.ntmps49
  go_wp2_with fail
  refine (Of2 k _ H0.out H1.out).mono ?_
  rintro e w1 ⟨rfl, rfl⟩
  go_wp2_with fail
  go_ret2
  exact ⟨rfl, rfl⟩

set_option maxHeartbeats 8000000 in
set_option maxRecDepth 1000000 in
theorem reckon_sqrt_none (k : Int) (m : Md) (hk : KindOf k m) (al : Option Addr) (n cl : Nat) (vs : List Value) (ls : List (List UInt8)) (w : World) (hv : Rd w al n vs) (hp : BParts w vs ls) (hn : n ≤ 100000) (hg : numsB m ls = true)
    (hop : ∀ gp ae ce wx, Fr Nob w wx → Has wx gp (mdL m) 68 → Rd wx ae (ls.length * 4) (elCells m ls) → Calls Try.prog 59 #[.pointer (some ⟨gp, 0, none⟩), .slice ae ls.length ce] wx fun e w' => e = .returned (.tuple #[i4 0, .bool false]) ∧ Fr Nob wx w') :
    Calls Try.prog 49 #[.int .i64 k, .func (.func 59) #[] #[], .slice al n cl] w fun e w' => e = .returned (.tuple #[.slice none 0 0, .int .i64 6]) ∧ Fr Nob w w' := by
  have HK := Lib.hid hk
  have HV := Lib.hid hv
  have HP := Lib.hid hp
  have HG := Lib.hid hg
  have HOP := Lib.hid hop
  clear hk hv hp hg hop
  go_enter Try.func49, Try.ntmps49
  go_wp2_with fail
  refine (OfK HK.out _).mono ?_
  rintro e w1 ⟨gp, rfl, hgg, hm, hf⟩
  clear hgg
  have HM := Lib.hid hm
  have HF := Lib.hid hf
  clear hm hf
  go_wp2_with fail
  refine (read_any m gp al n cl vs ls _ HK.out.ok HM.out (HV.out.still HF.out) (HP.out.still HF.out) hn).mono ?_
  rintro e w2 ⟨hgood, -, hf2⟩
  obtain ⟨v, rfl, hown⟩ := hgood HG.out
  obtain ⟨ae, ce, rfl, -, hre, -⟩ := hown.form
  have HRE := Lib.hid hre
  have HM2 := Lib.hid (HM.out.keep hf2 id)
  have HF2 := Lib.hid (HF.out.then hf2)
  clear hgood hown hre hf2
  go_wp2_with fail
  refine (HOP.out gp ae ce _ HF2.out HM2.out HRE.out).mono ?_
  rintro e w3 ⟨rfl, hf3⟩
  have HF3 := Lib.hid (HF2.out.then hf3)
  have st0 := St.start Nob w3
  clear hf3
  go_wp2_with (with_reducible refine wl_stop (o := ⟨some 11, _, _, _, _, _⟩) ?_)
  refine wl_allocS st0 rfl rfl (z := .agg #[.int .u64 0, .int .u64 0, .int .u64 0, .int .u64 0]) (by kernel_rfl) (cw 4 0) (by rw [cw_zero]; rfl) ?_
  intro g11 w4 st1
  clear st0
  go_wp2_with (with_reducible refine wl_stop (o := ⟨none, _, _, _, _, _⟩) ?_)
  refine wl_storeS st1 0 rfl rfl rfl rfl (cs := cw 4 0) rfl (by rw [cw_len]) (by rw [cw_len]; kernel_rfl) (cw_one _ _) ?_
  intro w5 st2
  have HF5 := Lib.hid (HF3.out.then st2.fr)
  clear st1 st2
  go_wp2_with fail
  go_ret2
  exact ⟨rfl, HF5.out⟩
end Go.Proofs.Ytmegaegedlbckaa

/- num: Add, Sub, Mul, Inv. -/
namespace Go.Mv
open Go.RowKit
theorem rd_at {w : World} {b o n : Nat} {vs : List Value} (h : Rd w (some ⟨b, o, none⟩) n vs) (k : Nat) (cs : List Value) (hcs : (vs.drop k).take cs.length = cs) : At w b (o + k) cs := by
  intro i v hv
  rcases h.2 with h0 | ⟨b', o', he, hc⟩
  · have hl := h.len
    rw [h0] at hl
    rw [List.length_eq_zero_iff.1 hl] at hcs
    simp at hcs
    subst hcs
    simp at hv
  · simp only [Option.some.injEq, Addr.mk.injEq] at he
    obtain ⟨rfl, rfl, -⟩ := he
    have := hc.sub k cs.length
    rw [hcs] at this
    exact this i v hv
theorem rd_range {w : World} {b o n : Nat} {vs : List Value} (h : Rd w (some ⟨b, o, none⟩) n vs) (k : Nat) (cs : List Value) (hcs : (vs.drop k).take cs.length = cs) : w.rangeAt b (o + k) cs :=
  fun i v hv => rd_at h k cs hcs i v hv
end Go.Mv
namespace Go.Proofs.Ytmegaegedlbckaa
open Go.RowKit Go.Mv Mvp
theorem el_first (m : Md) (l : List UInt8) (ls : List (List UInt8)) : ((elCells m (l :: ls)).drop 0).take (cw 4 (elN m (beN l))).length = cw 4 (elN m (beN l)) := by
  rw [cw_len]; exact elCells_at m (l :: ls) 0 (by simp)
theorem el_second (m : Md) (l k : List UInt8) (ls : List (List UInt8)) : ((elCells m (l :: k :: ls)).drop 4).take (cw 4 (elN m (beN k))).length = cw 4 (elN m (beN k)) := by
  rw [cw_len]; exact elCells_at m (l :: k :: ls) 1 (by simp)
attribute [local irreducible] limbs lw mix cw cSub cAdd cMul foldC valFrom beN laid be32 powm montT mstep elN mdL elCells numsB numB

set_option maxHeartbeats 8000000 in
set_option maxRecDepth 1000000 in
theorem two_any (f : Value) (w : World) :
    Calls Try.prog 50 #[f] w fun e w' => ∃ g, e = .returned (.func (.func 73) #[] #[.pointer (some ⟨g, 0, none⟩)]) ∧ Has w' g f.cells.toList 90 ∧ Fr Nob w w' := by
  have st0 := St.start Nob w
  go_enter Try.func50, Try.ntmps50
  go_wp2_with (with_reducible refine wl_stop (o := ⟨some 1, _, _, _, _, _⟩) ?_)
  refine wl_boxS st0 rfl rfl rfl f.cells.toList rfl ?_
  intro g w1 st1
  have hg := st1.at 0 rfl
  have hf := st1.fr
  clear st0 st1
  go_wp2_with fail
  go_ret
  exact ⟨g, rfl, hg, hf⟩

set_option maxHeartbeats 8000000 in
set_option maxRecDepth 1000000 in
theorem twoAdd_any (m : Md) (gp : Nat) (w : World) (hok : m.Ok) (hpm : Has w gp (mdL m) 68) (gc : Nat) (hc : Has w gc [.func (.func 47) #[] #[]] 90) (ae : Option Addr) (ce : Nat) (la lb : List UInt8) (hre : Rd w ae (2 * 4) (elCells m [la, lb])) :
    Calls Try.prog 73 #[.pointer (some ⟨gp, 0, none⟩), .slice ae 2 ce, .pointer (some ⟨gc, 0, none⟩)] w fun e w' => e = .returned (.tuple #[i4 (elN m (beN la + beN lb)), .bool true]) ∧ Fr Nob w w' := by
  obtain ⟨b, o, rfl, -⟩ := hre.at (by omega)
  have HOK := Lib.hid hok
  have HPM := Lib.hid hpm
  have HCP := Lib.hid hc
  have HRE := Lib.hid hre
  clear hok hpm hc hre
  have st0 := St.start Nob w
  go_enter Try.func73, Try.ntmps73
  go_wp2_with (with_reducible refine wl_stop (o := ⟨some 5, _, _, _, _, _⟩) ?_)
  refine wl_allocS st0 rfl rfl (z := .agg #[.int .u64 0, .int .u64 0, .int .u64 0, .int .u64 0]) (by kernel_rfl) (cw 4 0) (by rw [cw_zero]; rfl) ?_
  intro g5 w1 st1
  clear st0
  go_wp2_with fail
  refine wp_region_noPanic ?_
  refine wp_region_plan (fun wx => St Nob w wx [(g5, cw 4 0, 81)]) 9 (.t 0 (.w 1 (.w 2 (.w 3 (.t 4 (.w 5 (.w 6 (.t 7 (.r 8 (.m 9 (.w 10 .nil))))))))))) (by kernel_rfl) (by kernel_rfl) st1.drew (fun _ _ _ _ _ h => h) ?_
  have hd1 := st1.drew
  clear st1
  refine plan_t (v := ?_) rfl rfl (fun wx hS => ?_) ?_
  rotate_left 1
  · (have hc := (HCP.out.keep (St.fr hS) id).cell (i := 0) rfl; clear hS; go_simp; with_reducible rfl)
  try simp only [Act.put, List.setIfInBounds_toArray, List.set_cons_zero, List.set_cons_succ]
  refine plan_w (v := ?_) rfl rfl (fun wx => ?_) ?_
  rotate_left 1
  · (go_simp; with_reducible rfl)
  try simp only [Act.put, List.setIfInBounds_toArray, List.set_cons_zero, List.set_cons_succ]
  refine plan_w (v := ?_) rfl rfl (fun wx => ?_) ?_
  rotate_left 1
  · (go_simp; with_reducible rfl)
  try simp only [Act.put, List.setIfInBounds_toArray, List.set_cons_zero, List.set_cons_succ]
  refine plan_w (v := ?_) rfl rfl (fun wx => ?_) ?_
  rotate_left 1
  · (go_simp; with_reducible rfl)
  try simp only [Act.put, List.setIfInBounds_toArray, List.set_cons_zero, List.set_cons_succ]
  refine plan_arr rfl rfl rfl rfl (cw 4 (elN m (beN la))) (fun wx hS => (rd_range (HRE.out.still (St.fr hS)) 0 _ (el_first m la [lb]))) Try.underlying81 rfl (by first | (rw [cw_len]; kernel_rfl) | (simp only [List.length_append, cw_len]; kernel_rfl)) ?_
  try simp only [Act.put, List.setIfInBounds_toArray, List.set_cons_zero, List.set_cons_succ]
  refine plan_w (v := ?_) rfl rfl (fun wx => ?_) ?_
  rotate_left 1
  · (go_simp; with_reducible rfl)
  try simp only [Act.put, List.setIfInBounds_toArray, List.set_cons_zero, List.set_cons_succ]
  refine plan_w (v := ?_) rfl rfl (fun wx => ?_) ?_
  rotate_left 1
  · (go_simp; with_reducible rfl)
  try simp only [Act.put, List.setIfInBounds_toArray, List.set_cons_zero, List.set_cons_succ]
  refine plan_arr rfl rfl rfl rfl (cw 4 (elN m (beN lb))) (fun wx hS => (rd_range (HRE.out.still (St.fr hS)) 4 _ (el_second m la lb []))) Try.underlying81 rfl (by first | (rw [cw_len]; kernel_rfl) | (simp only [List.length_append, cw_len]; kernel_rfl)) ?_
  try simp only [Act.put, List.setIfInBounds_toArray, List.set_cons_zero, List.set_cons_succ]
  refine plan_r rfl rfl ?_
  go_simp
  refine (MAdd_any m gp _ HOK.out (HPM.out.keep hd1.fr id) (beN la) (beN lb)).mono ?_
  rintro e' w2 ⟨rfl, hf2⟩
  have st2 := hd1.keep hf2
  clear hf2
  clear hd1
  refine ⟨st2, ?_⟩
  try simp only [Act.put, List.setIfInBounds_toArray, List.set_cons_zero, List.set_cons_succ]
  refine plan_m rfl rfl ?_
  refine wp_storeS st2 0 rfl rfl rfl rfl (by first | (simp only [cw_len]; done) | (simp only [List.length_append, cw_len]; done)) (by first | (rw [cw_len]; kernel_rfl) | (simp only [List.length_append, cw_len]; kernel_rfl)) (cw_one _ _) ?_
  intro w3 st3
  clear st2
  try simp only [Act.put]
  refine plan_w (v := ?_) rfl rfl (fun wx => ?_) ?_
  rotate_left 1
  · (go_simp; with_reducible rfl)
  try simp only [Act.put, List.setIfInBounds_toArray, List.set_cons_zero, List.set_cons_succ]
  refine plan_end ?_
  refine NoPanic.normal ?_
  have hr := st3.at 0 rfl
  have hfr := st3.fr
  clear st3
  go_wp2_with fail
  exact bodyPost_ret (results_arr2 rfl rfl hr Try.underlying81 (by first | (rw [cw_len]; kernel_rfl) | (simp only [List.length_append, cw_len]; kernel_rfl)) rfl) rfl ⟨rfl, hfr⟩

set_option maxHeartbeats 8000000 in
set_option maxRecDepth 1000000 in
theorem twoSub_any (m : Md) (gp : Nat) (w : World) (hok : m.Ok) (hpm : Has w gp (mdL m) 68) (gc : Nat) (hc : Has w gc [.func (.func 51) #[] #[]] 90) (ae : Option Addr) (ce : Nat) (la lb : List UInt8) (hre : Rd w ae (2 * 4) (elCells m [la, lb])) :
    Calls Try.prog 73 #[.pointer (some ⟨gp, 0, none⟩), .slice ae 2 ce, .pointer (some ⟨gc, 0, none⟩)] w fun e w' => e = .returned (.tuple #[i4 (elN m (beN la + (m.M - beN lb % m.M))), .bool true]) ∧ Fr Nob w w' := by
  obtain ⟨b, o, rfl, -⟩ := hre.at (by omega)
  have HOK := Lib.hid hok
  have HPM := Lib.hid hpm
  have HCP := Lib.hid hc
  have HRE := Lib.hid hre
  clear hok hpm hc hre
  have st0 := St.start Nob w
  go_enter Try.func73, Try.ntmps73
  go_wp2_with (with_reducible refine wl_stop (o := ⟨some 5, _, _, _, _, _⟩) ?_)
  refine wl_allocS st0 rfl rfl (z := .agg #[.int .u64 0, .int .u64 0, .int .u64 0, .int .u64 0]) (by kernel_rfl) (cw 4 0) (by rw [cw_zero]; rfl) ?_
  intro g5 w1 st1
  clear st0
  go_wp2_with fail
  refine wp_region_noPanic ?_
  refine wp_region_plan (fun wx => St Nob w wx [(g5, cw 4 0, 81)]) 9 (.t 0 (.w 1 (.w 2 (.w 3 (.t 4 (.w 5 (.w 6 (.t 7 (.r 8 (.m 9 (.w 10 .nil))))))))))) (by kernel_rfl) (by kernel_rfl) st1.drew (fun _ _ _ _ _ h => h) ?_
  have hd1 := st1.drew
  clear st1
  refine plan_t (v := ?_) rfl rfl (fun wx hS => ?_) ?_
  rotate_left 1
  · (have hc := (HCP.out.keep (St.fr hS) id).cell (i := 0) rfl; clear hS; go_simp; with_reducible rfl)
  try simp only [Act.put, List.setIfInBounds_toArray, List.set_cons_zero, List.set_cons_succ]
  refine plan_w (v := ?_) rfl rfl (fun wx => ?_) ?_
  rotate_left 1
  · (go_simp; with_reducible rfl)
  try simp only [Act.put, List.setIfInBounds_toArray, List.set_cons_zero, List.set_cons_succ]
  refine plan_w (v := ?_) rfl rfl (fun wx => ?_) ?_
  rotate_left 1
  · (go_simp; with_reducible rfl)
  try simp only [Act.put, List.setIfInBounds_toArray, List.set_cons_zero, List.set_cons_succ]
  refine plan_w (v := ?_) rfl rfl (fun wx => ?_) ?_
  rotate_left 1
  · (go_simp; with_reducible rfl)
  try simp only [Act.put, List.setIfInBounds_toArray, List.set_cons_zero, List.set_cons_succ]
  refine plan_arr rfl rfl rfl rfl (cw 4 (elN m (beN la))) (fun wx hS => (rd_range (HRE.out.still (St.fr hS)) 0 _ (el_first m la [lb]))) Try.underlying81 rfl (by first | (rw [cw_len]; kernel_rfl) | (simp only [List.length_append, cw_len]; kernel_rfl)) ?_
  try simp only [Act.put, List.setIfInBounds_toArray, List.set_cons_zero, List.set_cons_succ]
  refine plan_w (v := ?_) rfl rfl (fun wx => ?_) ?_
  rotate_left 1
  · (go_simp; with_reducible rfl)
  try simp only [Act.put, List.setIfInBounds_toArray, List.set_cons_zero, List.set_cons_succ]
  refine plan_w (v := ?_) rfl rfl (fun wx => ?_) ?_
  rotate_left 1
  · (go_simp; with_reducible rfl)
  try simp only [Act.put, List.setIfInBounds_toArray, List.set_cons_zero, List.set_cons_succ]
  refine plan_arr rfl rfl rfl rfl (cw 4 (elN m (beN lb))) (fun wx hS => (rd_range (HRE.out.still (St.fr hS)) 4 _ (el_second m la lb []))) Try.underlying81 rfl (by first | (rw [cw_len]; kernel_rfl) | (simp only [List.length_append, cw_len]; kernel_rfl)) ?_
  try simp only [Act.put, List.setIfInBounds_toArray, List.set_cons_zero, List.set_cons_succ]
  refine plan_r rfl rfl ?_
  go_simp
  refine (MSub_any m gp _ HOK.out (HPM.out.keep hd1.fr id) (beN la) (beN lb)).mono ?_
  rintro e' w2 ⟨rfl, hf2⟩
  have st2 := hd1.keep hf2
  clear hf2
  clear hd1
  refine ⟨st2, ?_⟩
  try simp only [Act.put, List.setIfInBounds_toArray, List.set_cons_zero, List.set_cons_succ]
  refine plan_m rfl rfl ?_
  refine wp_storeS st2 0 rfl rfl rfl rfl (by first | (simp only [cw_len]; done) | (simp only [List.length_append, cw_len]; done)) (by first | (rw [cw_len]; kernel_rfl) | (simp only [List.length_append, cw_len]; kernel_rfl)) (cw_one _ _) ?_
  intro w3 st3
  clear st2
  try simp only [Act.put]
  refine plan_w (v := ?_) rfl rfl (fun wx => ?_) ?_
  rotate_left 1
  · (go_simp; with_reducible rfl)
  try simp only [Act.put, List.setIfInBounds_toArray, List.set_cons_zero, List.set_cons_succ]
  refine plan_end ?_
  refine NoPanic.normal ?_
  have hr := st3.at 0 rfl
  have hfr := st3.fr
  clear st3
  go_wp2_with fail
  exact bodyPost_ret (results_arr2 rfl rfl hr Try.underlying81 (by first | (rw [cw_len]; kernel_rfl) | (simp only [List.length_append, cw_len]; kernel_rfl)) rfl) rfl ⟨rfl, hfr⟩

set_option maxHeartbeats 8000000 in
set_option maxRecDepth 1000000 in
theorem twoMul_any (m : Md) (gp : Nat) (w : World) (hok : m.Ok) (hpm : Has w gp (mdL m) 68) (gc : Nat) (hc : Has w gc [.func (.func 45) #[] #[]] 90) (ae : Option Addr) (ce : Nat) (la lb : List UInt8) (hre : Rd w ae (2 * 4) (elCells m [la, lb])) :
    Calls Try.prog 73 #[.pointer (some ⟨gp, 0, none⟩), .slice ae 2 ce, .pointer (some ⟨gc, 0, none⟩)] w fun e w' => e = .returned (.tuple #[i4 (elN m (beN la * beN lb)), .bool true]) ∧ Fr Nob w w' := by
  obtain ⟨b, o, rfl, -⟩ := hre.at (by omega)
  have HOK := Lib.hid hok
  have HPM := Lib.hid hpm
  have HCP := Lib.hid hc
  have HRE := Lib.hid hre
  clear hok hpm hc hre
  have st0 := St.start Nob w
  go_enter Try.func73, Try.ntmps73
  go_wp2_with (with_reducible refine wl_stop (o := ⟨some 5, _, _, _, _, _⟩) ?_)
  refine wl_allocS st0 rfl rfl (z := .agg #[.int .u64 0, .int .u64 0, .int .u64 0, .int .u64 0]) (by kernel_rfl) (cw 4 0) (by rw [cw_zero]; rfl) ?_
  intro g5 w1 st1
  clear st0
  go_wp2_with fail
  refine wp_region_noPanic ?_
  refine wp_region_plan (fun wx => St Nob w wx [(g5, cw 4 0, 81)]) 9 (.t 0 (.w 1 (.w 2 (.w 3 (.t 4 (.w 5 (.w 6 (.t 7 (.r 8 (.m 9 (.w 10 .nil))))))))))) (by kernel_rfl) (by kernel_rfl) st1.drew (fun _ _ _ _ _ h => h) ?_
  have hd1 := st1.drew
  clear st1
  refine plan_t (v := ?_) rfl rfl (fun wx hS => ?_) ?_
  rotate_left 1
  · (have hc := (HCP.out.keep (St.fr hS) id).cell (i := 0) rfl; clear hS; go_simp; with_reducible rfl)
  try simp only [Act.put, List.setIfInBounds_toArray, List.set_cons_zero, List.set_cons_succ]
  refine plan_w (v := ?_) rfl rfl (fun wx => ?_) ?_
  rotate_left 1
  · (go_simp; with_reducible rfl)
  try simp only [Act.put, List.setIfInBounds_toArray, List.set_cons_zero, List.set_cons_succ]
  refine plan_w (v := ?_) rfl rfl (fun wx => ?_) ?_
  rotate_left 1
  · (go_simp; with_reducible rfl)
  try simp only [Act.put, List.setIfInBounds_toArray, List.set_cons_zero, List.set_cons_succ]
  refine plan_w (v := ?_) rfl rfl (fun wx => ?_) ?_
  rotate_left 1
  · (go_simp; with_reducible rfl)
  try simp only [Act.put, List.setIfInBounds_toArray, List.set_cons_zero, List.set_cons_succ]
  refine plan_arr rfl rfl rfl rfl (cw 4 (elN m (beN la))) (fun wx hS => (rd_range (HRE.out.still (St.fr hS)) 0 _ (el_first m la [lb]))) Try.underlying81 rfl (by first | (rw [cw_len]; kernel_rfl) | (simp only [List.length_append, cw_len]; kernel_rfl)) ?_
  try simp only [Act.put, List.setIfInBounds_toArray, List.set_cons_zero, List.set_cons_succ]
  refine plan_w (v := ?_) rfl rfl (fun wx => ?_) ?_
  rotate_left 1
  · (go_simp; with_reducible rfl)
  try simp only [Act.put, List.setIfInBounds_toArray, List.set_cons_zero, List.set_cons_succ]
  refine plan_w (v := ?_) rfl rfl (fun wx => ?_) ?_
  rotate_left 1
  · (go_simp; with_reducible rfl)
  try simp only [Act.put, List.setIfInBounds_toArray, List.set_cons_zero, List.set_cons_succ]
  refine plan_arr rfl rfl rfl rfl (cw 4 (elN m (beN lb))) (fun wx hS => (rd_range (HRE.out.still (St.fr hS)) 4 _ (el_second m la lb []))) Try.underlying81 rfl (by first | (rw [cw_len]; kernel_rfl) | (simp only [List.length_append, cw_len]; kernel_rfl)) ?_
  try simp only [Act.put, List.setIfInBounds_toArray, List.set_cons_zero, List.set_cons_succ]
  refine plan_r rfl rfl ?_
  go_simp
  refine (MMulE m gp _ HOK.out (HPM.out.keep hd1.fr id) (beN la) (beN lb)).mono ?_
  rintro e' w2 ⟨rfl, hf2⟩
  have st2 := hd1.keep hf2
  clear hf2
  clear hd1
  refine ⟨st2, ?_⟩
  try simp only [Act.put, List.setIfInBounds_toArray, List.set_cons_zero, List.set_cons_succ]
  refine plan_m rfl rfl ?_
  refine wp_storeS st2 0 rfl rfl rfl rfl (by first | (simp only [cw_len]; done) | (simp only [List.length_append, cw_len]; done)) (by first | (rw [cw_len]; kernel_rfl) | (simp only [List.length_append, cw_len]; kernel_rfl)) (cw_one _ _) ?_
  intro w3 st3
  clear st2
  try simp only [Act.put]
  refine plan_w (v := ?_) rfl rfl (fun wx => ?_) ?_
  rotate_left 1
  · (go_simp; with_reducible rfl)
  try simp only [Act.put, List.setIfInBounds_toArray, List.set_cons_zero, List.set_cons_succ]
  refine plan_end ?_
  refine NoPanic.normal ?_
  have hr := st3.at 0 rfl
  have hfr := st3.fr
  clear st3
  go_wp2_with fail
  exact bodyPost_ret (results_arr2 rfl rfl hr Try.underlying81 (by first | (rw [cw_len]; kernel_rfl) | (simp only [List.length_append, cw_len]; kernel_rfl)) rfl) rfl ⟨rfl, hfr⟩

set_option maxHeartbeats 8000000 in
set_option maxRecDepth 1000000 in
theorem inv1_any (m : Md) (gp : Nat) (w : World) (hok : m.Ok) (hpm : Has w gp (mdL m) 68) (ae : Option Addr) (ce : Nat) (la : List UInt8) (hre : Rd w ae (1 * 4) (elCells m [la])) :
    Calls Try.prog 52 #[.pointer (some ⟨gp, 0, none⟩), .slice ae 1 ce] w fun e w' => e = .returned (.tuple #[i4 (elN m (beN la ^ (m.M - 2))), .bool true]) ∧ Fr Nob w w' := by
  obtain ⟨b, o, rfl, -⟩ := hre.at (by omega)
  have HOK := Lib.hid hok
  have HPM := Lib.hid hpm
  have HRE := Lib.hid hre
  clear hok hpm hre
  have st0 := St.start Nob w
  go_enter Try.func52, Try.ntmps52
  go_wp2_with (with_reducible refine wl_stop (o := ⟨some 4, _, _, _, _, _⟩) ?_)
  refine wl_allocS st0 rfl rfl (z := .agg #[.int .u64 0, .int .u64 0, .int .u64 0, .int .u64 0]) (by kernel_rfl) (cw 4 0) (by rw [cw_zero]; rfl) ?_
  intro g4 w1 st1
  clear st0
  go_wp2_with (with_reducible refine wl_stop (o := ⟨some 9, _, _, _, _, _⟩) ?_)
  refine wl_loadR rfl rfl Try.underlying81 rfl rfl (rd_at (HRE.out.still st1.fr) 0 (cw 4 (elN m (beN la))) (el_first m la [])) (by first | (rw [cw_len]; kernel_rfl) | (simp only [List.length_append, cw_len]; kernel_rfl)) ?_
  go_wp2_with fail
  refine (MInv_any m gp _ HOK.out (HPM.out.keep st1.fr id) (beN la)).mono ?_
  rintro e' w2 ⟨rfl, hf2⟩
  have st2 := st1.keep hf2
  clear st1 hf2
  go_wp2_with (with_reducible refine wl_stop (o := ⟨none, _, _, _, _, _⟩) ?_)
  refine wl_storeS st2 0 rfl rfl rfl rfl rfl (by first | (simp only [cw_len]; done) | (simp only [List.length_append, cw_len]; done)) (by first | (rw [cw_len]; kernel_rfl) | (simp only [List.length_append, cw_len]; kernel_rfl)) (cw_one _ _) ?_
  intro w3 st3
  clear st2
  have hr := st3.at 0 rfl
  have hfr := st3.fr
  clear st3
  go_wp2_with fail
  exact bodyPost_ret (results_arr2 rfl rfl hr Try.underlying81 (by first | (rw [cw_len]; kernel_rfl) | (simp only [List.length_append, cw_len]; kernel_rfl)) rfl) rfl ⟨rfl, hfr⟩
end Go.Proofs.Ytmegaegedlbckaa

/- Arrays of words compared; a number shifted down; bits laid one by one. -/
namespace Mvp
theorem half_word (N i : Nat) : lw (N / 2) i = lw N i / 2 ||| (lw N (i + 1) * 9223372036854775808 % 18446744073709551616) := by
  have h1 : lw N (i + 1) * 9223372036854775808 % 18446744073709551616 = 2 ^ 63 * (lw N (i + 1) % 2) := by
    have : (18446744073709551616 : Nat) = 9223372036854775808 * 2 := by decide
    rw [this, Nat.mul_comm, Nat.mul_mod_mul_left]
  have h2 : lw N i / 2 < 2 ^ 63 := by have := lw_lt N i; omega
  rw [h1, Nat.or_comm, ← Nat.two_pow_add_eq_or_of_lt h2]
  have e1 : lw N (i + 1) = N / B64 ^ i / 18446744073709551616 % 18446744073709551616 := by
    unfold lw
    rw [Nat.pow_succ, ← Nat.div_div_eq_div_mul]
  have e2 : lw (N / 2) i = N / B64 ^ i / 2 % 18446744073709551616 := by
    unfold lw
    rw [Nat.div_div_eq_div_mul, Nat.mul_comm, ← Nat.div_div_eq_div_mul]
  have e3 : lw N i = N / B64 ^ i % 18446744073709551616 := rfl
  rw [e1, e2, e3]
  generalize N / B64 ^ i = x
  omega
/-- a bit is laid -/
theorem bit_step (n q k b : Nat) (hq : q < 2 ^ k) (hb : b < 2) (hk : k / 64 < n) : (limbs n q).set (k / 64) (lw q (k / 64) ||| b * 2 ^ (k % 64)) = limbs n (q + b * 2 ^ k) := by
  have e0 : 2 ^ k = B64 ^ (k / 64) * 2 ^ (k % 64) := by
    rw [show B64 = 2 ^ 64 from rfl, ← Nat.pow_mul, ← Nat.pow_add]
    congr 1; omega
  have hj : q / B64 ^ (k / 64) < 2 ^ (k % 64) := Nat.div_lt_of_lt_mul (by rw [← e0]; exact hq)
  have hr : 2 ^ (k % 64) * 2 ≤ B64 := by
    rw [← Nat.pow_succ, show B64 = 2 ^ 64 from rfl]
    exact Nat.pow_le_pow_right (by decide) (by omega)
  have hy : b * 2 ^ (k % 64) ≤ 2 ^ (k % 64) := by
    have := Nat.mul_le_mul_right (2 ^ (k % 64)) (show b ≤ 1 by omega)
    rwa [Nat.one_mul] at this
  rw [e0, Nat.mul_left_comm b]
  apply List.ext_getElem?
  intro i
  rw [List.getElem?_set, limbs_length]
  rcases Nat.lt_or_ge i n with hi | hi
  · rw [limbs_get _ _ _ hi, limbs_get _ _ _ hi]
    rcases Nat.lt_trichotomy i (k / 64) with h | h | h
    · rw [if_neg (by omega), lw_shift_lo _ _ _ _ h]
    · subst h
      rw [if_pos rfl, if_pos hi]
      congr 1
      have h2 := lw_shift_hi q (b * 2 ^ (k % 64)) (k / 64) 0
      rw [Nat.add_zero] at h2
      rw [h2]
      rw [Nat.mul_comm b] at hy h2 ⊢
      have h3 : lw q (k / 64) = q / B64 ^ (k / 64) := Nat.mod_eq_of_lt (by generalize q / B64 ^ (k / 64) = y at *; generalize 2 ^ (k % 64) = z at *; omega)
      rw [h3, Nat.or_comm, ← Nat.two_pow_add_eq_or_of_lt hj]
      simp only [lw, Nat.pow_zero, Nat.div_one]
      generalize q / B64 ^ (k / 64) = y at *
      generalize 2 ^ (k % 64) * b = u at *
      generalize 2 ^ (k % 64) = z at *
      rw [Nat.add_comm]
      exact (Nat.mod_eq_of_lt (by omega)).symm
    · rw [if_neg (by omega)]
      congr 1
      obtain ⟨j, rfl⟩ : ∃ j, i = k / 64 + (1 + j) := ⟨i - k / 64 - 1, by omega⟩
      rw [lw_shift_hi, ← lw_div q]
      rw [lw_top (q / B64 ^ (k / 64)) 1 _ (by rw [Nat.pow_one]; omega) (by omega), lw_top _ 1 _ (by rw [Nat.pow_one]; omega) (by omega)]
  · rw [if_neg (by omega), List.getElem?_eq_none (by rw [limbs_length]; exact hi), List.getElem?_eq_none (by rw [limbs_length]; exact hi)]
theorem quarter_step (P k : Nat) : P / 4 % 2 ^ (k + 1) = P / 4 % 2 ^ k + (P / 2 ^ (k + 2) % 2) * 2 ^ k := by
  have e : P / 2 ^ (k + 2) = P / 4 / 2 ^ k := by
    rw [Nat.div_div_eq_div_mul, Nat.pow_add, Nat.mul_comm]
  rw [e, Nat.pow_succ, Nat.mod_mul, Nat.mul_comm (2 ^ k)]
end Mvp
namespace Go.Mv
open Go.RowKit Mvp
variable {P : Program}
theorem run_eq4 {t e : TypeId} (hu : P.underlying t = some (.array 4 e)) (he : P.underlying e = some (.int .u64)) (hi0 : (P.info? e).map (·.size) = some 1) (a b : Nat) (w : World) :
    (Op.equal t (.agg (cw 4 a).toArray) (.agg (cw 4 b).toArray)).run P w = .ok (decide (a % B64 ^ 4 = b % B64 ^ 4)) w := by
  obtain ⟨j, hj, hsz⟩ : ∃ j, P.info? e = some j ∧ j.size = 1 := by simpa using hi0
  have hc : P.cellsOf e = 1 := by simp [Program.cellsOf, hj, hsz]
  have hp : ∀ (x k : Nat), k < 4 → (part e (cw 4 x).toArray k).run P w = .ok (.int .u64 (lw x k : Nat)) w := by
    intro x k hk
    have hv := cw_get 4 x k hk
    simp [part, isAgg, run_underlying he, sizeOf, typeInfo, hj, hsz, hv]
  have hq0 : ∀ (d : Nat) (x y : Int), (Op.equalIn (d + 1) e (.int .u64 x) (.int .u64 y)).run P w = .ok (x == y) w := fun d x y => by
    simp [Op.equalIn, run_underlying he]
  have hq : ∀ x y : Int, (Op.equalIn 9999 e (.int .u64 x) (.int .u64 y)).run P w = .ok (x == y) w := hq0 9998
  have hbe : ∀ k, ((lw a k : Int) == (lw b k : Int)) = decide (lw a k = lw b k) := by
    intro k
    rw [Bool.eq_iff_iff]; simp; omega
  show (Op.equalIn (9999 + 1) t _ _).run P w = _
  rw [run_equalIn_array w 9999 _ _ hu hj, hc]
  have hfin : decide (a % B64 ^ 4 = b % B64 ^ 4) = (decide (lw a 0 = lw b 0) && (decide (lw a 1 = lw b 1) && (decide (lw a 2 = lw b 2) && decide (lw a 3 = lw b 3)))) := by
    rw [Bool.eq_iff_iff]
    simp only [decide_eq_true_eq, Bool.and_eq_true]
    constructor
    · intro h
      refine ⟨?_, ?_, ?_, ?_⟩ <;> (rw [← lw_mod a _ 4 (by decide), h, lw_mod b _ 4 (by decide)])
    · rintro ⟨h0, h1, h2, h3⟩
      refine limbs_mod_inj (limbs_ext fun i hi => ?_)
      have : i = 0 ∨ i = 1 ∨ i = 2 ∨ i = 3 := by omega
      rcases this with rfl | rfl | rfl | rfl <;> assumption
  rw [hfin]
  show (Op.eqItems 9999 e 1 _ _ [0, 1, 2, 3]).run P w = _
  have p0 := fun x => hp x 0 (by decide)
  have p1 := fun x => hp x 1 (by decide)
  have p2 := fun x => hp x 2 (by decide)
  have p3 := fun x => hp x 3 (by decide)
  clear hp hq0 hfin
  by_cases h0 : lw a 0 = lw b 0 <;> by_cases h1 : lw a 1 = lw b 1 <;> by_cases h2 : lw a 2 = lw b 2 <;> by_cases h3 : lw a 3 = lw b 3 <;> simp [Op.eqItems, p0, p1, p2, p3, hq, hbe, h0, h1, h2, h3, -beq_iff_eq]
end Go.Mv

/- mont.Int.shift by two bits. -/
namespace Go.Proofs.Ytmegaegedlbckaa
open Go.RowKit Go.Mv Mvp
attribute [local irreducible] limbs lw mix cw cSub cAdd cMul foldC valFrom beN laid be32 powm montT mstep elN

set_option maxHeartbeats 4000000 in
set_option maxRecDepth 100000 in
theorem Shift_any (N : Nat) (w : World) (hN : N < B64 ^ 4) :
    Calls Try.prog 76 #[i4 N, .int .i64 2] w fun e w' => e = .returned (i4 (N / 4)) ∧ Fr Nob w w' := by
  have HN := Lib.hid hN; clear hN
  have st0 := St.start Nob w
  go_enter Try.func76, Try.ntmps76
  go_wp2_with (with_reducible refine wl_stop (o := ⟨some 2, _, _, _, _, _⟩) ?_)
  refine wl_boxS st0 rfl rfl rfl (cw 4 N) rfl ?_
  intro g2 w1 st1
  clear st0
  go_wp2_with (with_reducible refine wl_stop (o := ⟨some 4, _, _, _, _, _⟩) ?_)
  refine wl_allocS st1 rfl rfl (z := .agg #[.int .u64 0, .int .u64 0, .int .u64 0, .int .u64 0]) (by kernel_rfl) (cw 4 0) (by rw [cw_zero]; rfl) ?_
  intro g4 w2 st2
  clear st1
  go_wp2
  go_loopw [7] (fun i wr => ∃ j : Nat, j ≤ 2 ∧ i = .int .i64 (j : Int) ∧ St Nob w wr [(g2, cw 4 (N / 2 ^ j), 66), (g4, cw 4 0, 66)]) (fun i _ => 2 - (intOf i).toNat)
  case atStart => exact ⟨0, by omega, rfl, by rw [Nat.pow_zero, Nat.div_one]; exact st2⟩
  case round =>
    obtain ⟨j, hj, rfl, st⟩ := hrel
    clear st2
    by_cases hlt : j < 2
    · have hltJ : (j : Int) < 2 := by omega
      have hV : N / 2 ^ j < B64 ^ 4 := Nat.lt_of_le_of_lt (Nat.div_le_self _ _) HN.out
      have hnext : N / 2 ^ (j + 1) = N / 2 ^ j / 2 := by rw [Nat.pow_succ, Nat.div_div_eq_div_mul]
      generalize hVe : N / 2 ^ j = V at *
      have HNEXT := Lib.hid hnext; have HV := Lib.hid hV; clear hnext hV hVe
      go_wp2
      go_loopw [9] (fun i wr => ∃ k : Nat, k ≤ 4 ∧ i = .int .i64 (k : Int) ∧ St Nob w wr [(g2, cw 4 (mix (V / 2) V k), 66), (g4, cw 4 0, 66)]) (fun i _ => 4 - (intOf i).toNat)
      case atStart => exact ⟨0, by omega, rfl, by rw [mix_zero]; exact st⟩
      case round =>
        obtain ⟨k, hk, rfl, stk⟩ := hrel
        clear st
        by_cases hltk : k < 4
        · have hltK : (k : Int) < 4 := by omega
          have c1 : wr.cell? ⟨g2, k, none⟩ = some (.int .u64 (lw V k : Nat)) := by have h := (stk.at 0 rfl).cell (cw_get 4 (mix (V / 2) V k) k hltk); rwa [lw_mix, if_neg (Nat.lt_irrefl k)] at h
          have f1 := (stk.at 0 rfl).free k (by rw [cw_len]; exact hltk)
          have stm := stk.set 0 rfl k (.int .u64 ((lw V k : Int) / 2))
          have hhw := half_word V k
          have hor : bits .or .u64 ((lw V k : Int) / 2) (IntKind.u64.wrap ((lw V (k + 1) : Int) * 9223372036854775808)) = ((lw (V / 2) k : Nat) : Int) := by
            have h := bits_or_u64_nat (lw V k / 2) (lw V (k + 1) * 9223372036854775808 % 18446744073709551616) (Nat.lt_of_le_of_lt (Nat.div_le_self _ _) (lw_lt _ _)) (Nat.mod_lt _ (by decide))
            rw [hhw, ← h, IntKind.wrap_u64]
            rfl
          have HOR := Lib.hid hor
          clear hor
          have STM := Lib.hid stm
          have HSET := Lib.hid (cw_set 4 (V / 2) V k hltk)
          by_cases h3 : k < 3
          · have h3I : (k : Int) < 3 := by omega
            have c2 := (stm.at 0 rfl).cell (i := k) (v := .int .u64 ((lw V k : Int) / 2)) (by rw [List.getElem?_set_self (by rw [cw_len]; exact hltk)])
            have c3 := (stm.at 0 rfl).cell (i := k + 1) (v := .int .u64 (lw V (k + 1) : Nat)) (by rw [List.getElem?_set_ne (by omega), cw_get 4 _ (k + 1) (by omega), lw_mix, if_neg (by omega)])
            have f2 := (stm.at 0 rfl).free k (by rw [List.length_set, cw_len]; exact hltk)
            have e1 : IntKind.i64.wrap ((k : Int) + 1) = (k : Int) + 1 := IntWalk.i64_in _ (by omega)
            have e4 : ((k : Int) + 1).toNat = k + 1 := by omega
            have hlo : (0 : Int) ≤ (k : Int) + 1 ∧ (k : Int) + 1 < 4 := by omega
            clear stm stk
            go_wp2_with fail
            generalize hwm : wr.setCell ⟨g2, k, none⟩ (.int .u64 ((lw V k : Int) / 2)) = wm at *
            clear hwm c1 f1
            refine wp_region_still_tail 10 (by kernel_rfl) (by kernel_rfl) ?_
            simp only [List.take_succ_cons, List.take_zero, List.drop_succ_cons, List.drop_zero]
            repeat still_step
            refine wpStill_nil ?_
            have hst := (STM.out.set 0 rfl k (.int .u64 (bits .or .u64 ((lw V k : Int) / 2) (IntKind.u64.wrap ((lw V (k + 1) : Int) * 9223372036854775808))))).drew
            rw [HOR.out] at hst
            simp only [List.set_cons_zero, List.set_set] at hst
            rw [HSET.out] at hst
            have HST := Lib.hid hst
            clear hst
            go_wp2
            go_roundw
            case rel => exact ⟨k + 1, by omega, by go_num, by rw [HOR.out]; exact HST.out⟩
            case measure => simp [intOf]; omega
          · have h3I : ¬ ((k : Int) < 3) := by omega
            have hk3 : k = 3 := by omega
            have hz : lw V (k + 1) = 0 := lw_top V 4 _ HV.out (by omega)
            have hst := STM.out
            rw [hz, Nat.zero_mul, Nat.zero_mod, Nat.or_zero] at hhw
            rw [show ((lw V k : Int) / 2) = ((lw (V / 2) k : Nat) : Int) by rw [hhw]; rfl] at hst
            simp only [List.set_cons_zero] at hst
            rw [HSET.out] at hst
            rw [show ((lw (V / 2) k : Nat) : Int) = ((lw V k : Int) / 2) by rw [hhw]; rfl] at hst
            have HST := Lib.hid hst
            clear hst stm hhw hz hk3 stk
            go_wp2
            go_roundw
            case rel => exact ⟨k + 1, by omega, by go_num, HST.out⟩
            case measure => simp [intOf]; omega
        · have hge : ¬ ((k : Int) < 4) := by omega
          have hk4 : k = 4 := by omega
          rw [hk4, mix_full, ← HNEXT.out] at stk
          clear hk4
          go_wp2
          go_roundw
          case rel => exact ⟨j + 1, by omega, by go_num, stk⟩
          case measure => simp [intOf]; omega
    · have hge : ¬ ((j : Int) < 2) := by omega
      have hj2 : j = 2 := by omega
      rw [hj2] at st
      clear hj2
      go_wp2_with (with_reducible refine wl_stop (o := ⟨some 31, _, _, _, _, _⟩) ?_)
      refine wl_loadS st 0 rfl rfl rfl Try.underlying66 rfl (by rw [cw_len]; kernel_rfl) ?_
      go_wp2_with (with_reducible refine wl_stop (o := ⟨none, _, _, _, _, _⟩) ?_)
      refine wl_storeS st 1 rfl rfl rfl rfl rfl (by rw [cw_len, cw_len]) (by rw [cw_len]; kernel_rfl) (cw_one _ _) ?_
      intro w9 st9
      clear st
      have hr := st9.at 1 rfl
      have hfr := st9.fr
      clear st9
      go_wp2
      exact bodyPost_ret (results_arr rfl rfl hr Try.underlying66 (by rw [cw_len]; kernel_rfl)) rfl ⟨rfl, hfr⟩
end Go.Proofs.Ytmegaegedlbckaa

/- mont: Sqrt; num.Sqrt's operation. -/
namespace Mvp
/-- the number whose square is asked for -/
def rtN (M x : Nat) : Nat := x ^ (M / 4 + 1)
def rtOk (M x : Nat) : Bool := rtN M x * rtN M x % M == x % M
def rtV (M x : Nat) : Nat := if rtN M x % M % 2 = 1 then M - rtN M x % M else rtN M x
end Mvp
namespace Go.Proofs.Ytmegaegedlbckaa
open Go.RowKit Go.Mv Mvp
theorem el_eq (m : Md) (h : m.Ok) (x y : Nat) (ty : TypeId) (hu : Try.prog.underlying ty = some (.array 4 36)) (w : World) :
    (Op.equal ty (i4 (elN m x)) (.agg (cw 4 (elN m y)).toArray)).run Try.prog w = .ok (x % m.M == y % m.M) w := by
  have hb : decide (elN m x % B64 ^ 4 = elN m y % B64 ^ 4) = (x % m.M == y % m.M) := by
    rw [Nat.mod_eq_of_lt (el_lt4 m h x), Nat.mod_eq_of_lt (el_lt4 m h y), Bool.eq_iff_iff]
    simp only [decide_eq_true_eq, beq_iff_eq]
    exact ⟨el_inj m h, el_congr m⟩
  rw [← hb]
  exact run_eq4 hu Try.underlying36 size_u64 _ _ w
theorem eq_guard (x y : Nat) (ty : TypeId) (hg : Try.prog.eqGuardType Try.prog.depth ty = false) (a b : Operand) (w : World) :
    (eqGuard .neq ty a b (i4 x) (.agg (cw 4 y).toArray)).run Try.prog w = .ok () w := run_eqGuard_agg w .neq ty a b _ _ hg
theorem el_neq (m : Md) (h : m.Ok) (x y : Nat) (ty : TypeId) (hu : Try.prog.underlying ty = some (.array 4 36)) (w : World) :
    (binOp .neq ty (i4 (elN m x)) (.agg (cw 4 (elN m y)).toArray)).run Try.prog w = .ok (.bool !(x % m.M == y % m.M)) w := by
  show (do pure (Value.bool (!(← Op.equal ty (i4 (elN m x)) (.agg (cw 4 (elN m y)).toArray))))).run Try.prog w = _
  simp only [Sem.run_bind, el_eq m h x y ty hu, Result.andThen_ok]
  rfl
theorem wp_elneq (m : Md) (h : m.Ok) (x y : Nat) (ty : TypeId) (hu : Try.prog.underlying ty = some (.array 4 36)) (hg : Try.prog.eqGuardType Try.prog.depth ty = false) {o : Oper} {a : Act} {w : World} {K : Act → World → Prop} {Q : Exit → Act → World → Prop} {p q : Operand} {T : TypeId}
    (ho : o.op = .binOp .neq ty p q T) (hp : a.eval p = i4 (elN m x)) (hq : a.eval q = .agg (cw 4 (elN m y)).toArray) {b : Bool} (hb : (x % m.M == y % m.M) = b) (hk : K (a.put o.dst (.bool !b)) w) : o.wp Try.prog a w K Q := by
  have h1 := eq_guard (elN m x) (elN m y) ty hg p q w
  have h2 := el_neq m h x y ty hu w
  rw [hb] at h2
  unfold Oper.wp execOp
  simp only [ho, hp, hq, Sem.run_bind, h1, h2, Result.andThen_ok, Sem.run_pure]
  exact hk
theorem low_word (v : Nat) (w : World) : (Instr.index 66 (i4 v) (.int .i64 0)).run Try.prog w = .ok (.int .u64 (lw v 0 : Nat)) w :=
  run_index_cw (P := Try.prog) Try.underlying66 Try.underlying36 size_u64 v 0 (by decide) .i64 w
theorem low_and (v : Nat) : bits .and .u64 (lw v 0 : Nat) 1 = ((v % 2 : Nat) : Int) := by
  have ha := bits_and_u64_nat (lw v 0) 1 (lw_lt _ _) (by omega)
  rw [Nat.and_one_is_mod, word0] at ha
  rw [word0]
  refine Eq.trans ha ?_
  congr 1
  omega
attribute [local irreducible] limbs lw mix cw cSub cAdd cMul foldC valFrom beN laid be32 powm montT mstep elN

set_option maxHeartbeats 8000000 in
set_option maxRecDepth 100000 in
theorem MSqrt_none (m : Md) (gp : Nat) (w : World) (hok : m.Ok) (hpm : Has w gp (mdL m) 68) (x n : Nat) (hn : m.M / 4 + 1 = n) (hr : ((x ^ n) * (x ^ n) % m.M == x % m.M) = false) :
    Calls Try.prog 60 #[.pointer (some ⟨gp, 0, none⟩), i4 (elN m x)] w fun e w' => e = .returned (.tuple #[i4 0, .bool false]) ∧ Fr Nob w w' := by
  have HOK := Lib.hid hok
  have HPM := Lib.hid hpm
  clear hok hpm
  have HE4 := Lib.hid (show n < B64 ^ 4 by subst hn; have := HOK.out.lt; have := HOK.out.one; omega)
  have h1p := fun wx => plus_any (m.M / 4) 1 wx
  rw [← small_words 1 (by decide), hn] at h1p
  clear hn
  have H1P := Lib.hid h1p
  clear h1p
  have HR := Lib.hid hr
  clear hr
  have st0 := St.start Nob w
  go_enter Try.func60, Try.ntmps60
  go_wp2_with (with_reducible refine wl_stop (o := ⟨some 3, _, _, _, _, _⟩) ?_)
  refine wl_boxS st0 rfl rfl rfl (cw 4 (elN m x)) rfl ?_
  intro g3 w1 st1
  clear st0
  go_wp2_with (with_reducible refine wl_stop (o := ⟨some 4, _, _, _, _, _⟩) ?_)
  refine wl_allocS st1 rfl rfl (z := .agg #[.int .u64 0, .int .u64 0, .int .u64 0, .int .u64 0]) (by kernel_rfl) (cw 4 0) (by rw [cw_zero]; rfl) ?_
  intro g4 w2 st2
  clear st1
  go_wp2_with (with_reducible refine wl_stop (o := ⟨some 13, _, _, _, _, _⟩) ?_)
  refine wl_loadA rfl rfl Try.underlying66 rfl (HPM.out.keep st2.fr id) (cw 4 m.M) (md_M m) (by first | (rw [cw_len]; kernel_rfl) | (simp only [List.length_append, cw_len]; kernel_rfl)) ?_
  go_wp2_with fail
  refine (Shift_any m.M _ HOK.out.lt).mono ?_
  rintro e' w3 ⟨rfl, hf3⟩
  have st3 := st2.keep hf3
  clear st2 hf3
  go_wp2_with fail
  refine (H1P.out _).mono ?_
  rintro e' w4 ⟨rfl, hf4⟩
  have st4 := st3.keep hf4
  clear st3 hf4
  go_wp2_with (with_reducible refine wl_stop (o := ⟨some 6, _, _, _, _, _⟩) ?_)
  refine wl_allocS st4 rfl rfl (z := .agg #[.int .u64 0, .int .u64 0, .int .u64 0, .int .u64 0]) (by kernel_rfl) (cw 4 0) (by rw [cw_zero]; rfl) ?_
  intro g6 w5 st5
  clear st4
  go_wp2_with (with_reducible refine wl_stop (o := ⟨none, _, _, _, _, _⟩) ?_)
  refine wl_storeS st5 2 rfl rfl rfl rfl rfl (by first | (simp only [cw_len]; done) | (simp only [List.length_append, cw_len]; done)) (by first | (rw [cw_len]; kernel_rfl) | (simp only [List.length_append, cw_len]; kernel_rfl)) (cw_one _ _) ?_
  intro w6 st6
  clear st5
  go_wp2_with (with_reducible refine wl_stop (o := ⟨some 20, _, _, _, _, _⟩) ?_)
  refine wl_loadS st6 0 rfl rfl rfl Try.underlying81 rfl (by first | (rw [cw_len]; kernel_rfl) | (simp only [List.length_append, cw_len]; kernel_rfl)) ?_
  go_wp2_with (with_reducible refine wl_stop (o := ⟨some 21, _, _, _, _, _⟩) ?_)
  refine wl_loadS st6 2 rfl rfl rfl Try.underlying66 rfl (by first | (rw [cw_len]; kernel_rfl) | (simp only [List.length_append, cw_len]; kernel_rfl)) ?_
  go_wp2_with fail
  refine (MPow_any m gp _ HOK.out (HPM.out.keep st6.fr id) x n HE4.out).mono ?_
  rintro e' w7 ⟨rfl, hf7⟩
  have st7 := st6.keep hf7
  clear st6 hf7
  go_wp2_with (with_reducible refine wl_stop (o := ⟨some 8, _, _, _, _, _⟩) ?_)
  refine wl_allocS st7 rfl rfl (z := .agg #[.int .u64 0, .int .u64 0, .int .u64 0, .int .u64 0]) (by kernel_rfl) (cw 4 0) (by rw [cw_zero]; rfl) ?_
  intro g8 w8 st8
  clear st7
  go_wp2_with (with_reducible refine wl_stop (o := ⟨none, _, _, _, _, _⟩) ?_)
  refine wl_storeS st8 3 rfl rfl rfl rfl rfl (by first | (simp only [cw_len]; done) | (simp only [List.length_append, cw_len]; done)) (by first | (rw [cw_len]; kernel_rfl) | (simp only [List.length_append, cw_len]; kernel_rfl)) (cw_one _ _) ?_
  intro w9 st9
  clear st8
  go_wp2_with fail
  refine wp_region_noPanic ?_
  refine wp_region_plan (fun wx => St Nob w wx [(g3, cw 4 (elN m x), 81), (g4, cw 4 0, 81), (g6, cw 4 n, 66), (g8, cw 4 (elN m (x ^ n)), 81)]) 4 (.w 0 (.t 1 (.t 3 (.r 2 (.m 4 .nil))))) (by kernel_rfl) (by kernel_rfl) st9.drew (fun _ _ _ _ _ h => h) ?_
  have hd9 := st9.drew
  clear st9
  refine plan_w (v := ?_) rfl rfl (fun wx => ?_) ?_
  rotate_left 1
  · (go_simp; with_reducible rfl)
  try simp only [Act.put, List.setIfInBounds_toArray, List.set_cons_zero, List.set_cons_succ]
  refine plan_arr rfl rfl rfl rfl (cw 4 (elN m (x ^ n))) (fun wx hS => St.rangeL hS 3 rfl 0 _ (by rw [List.drop_zero, List.take_of_length_le (Nat.le_refl _)])) Try.underlying81 rfl (by first | (rw [cw_len]; kernel_rfl) | (simp only [List.length_append, cw_len]; kernel_rfl)) ?_
  try simp only [Act.put, List.setIfInBounds_toArray, List.set_cons_zero, List.set_cons_succ]
  refine plan_arr rfl rfl rfl rfl (cw 4 (elN m x)) (fun wx hS => St.rangeL hS 0 rfl 0 _ (by rw [List.drop_zero, List.take_of_length_le (Nat.le_refl _)])) Try.underlying81 rfl (by first | (rw [cw_len]; kernel_rfl) | (simp only [List.length_append, cw_len]; kernel_rfl)) ?_
  try simp only [Act.put, List.setIfInBounds_toArray, List.set_cons_zero, List.set_cons_succ]
  refine plan_r rfl rfl ?_
  go_simp
  refine (MSquare_any m gp _ HOK.out (HPM.out.keep hd9.fr id) (x ^ n)).mono ?_
  rintro e' w10 ⟨rfl, hf10⟩
  have st10 := hd9.keep hf10
  clear hf10
  clear hd9
  refine ⟨st10, ?_⟩
  try simp only [Act.put, List.setIfInBounds_toArray, List.set_cons_zero, List.set_cons_succ]
  refine plan_m rfl rfl ?_
  refine wp_elneq m HOK.out ((x ^ n) * (x ^ n)) x 81 Try.underlying81 Try.eqGuardType81 rfl rfl rfl HR.out ?_
  try simp only [Act.put, List.setIfInBounds_toArray, List.set_cons_zero, List.set_cons_succ]
  refine plan_end ?_
  refine NoPanic.normal ?_
  go_wp2_with (with_reducible refine wl_stop (o := ⟨none, _, _, _, _, _⟩) ?_)
  refine wl_storeS st10 1 rfl rfl rfl rfl (cs := cw 4 0) (by rw [cw_zero]; rfl) (by first | (simp only [cw_len]; done) | (simp only [List.length_append, cw_len]; done)) (by first | (rw [cw_len]; kernel_rfl) | (simp only [List.length_append, cw_len]; kernel_rfl)) (cw_one _ _) ?_
  intro w11 st11
  clear st10
  have hr := st11.at 1 rfl
  have hfr := st11.fr
  clear st11
  go_wp2_with fail
  exact bodyPost_ret (results_arr2 rfl rfl hr Try.underlying81 (by first | (rw [cw_len]; kernel_rfl) | (simp only [List.length_append, cw_len]; kernel_rfl)) rfl) rfl ⟨rfl, hfr⟩

set_option maxHeartbeats 8000000 in
set_option maxRecDepth 100000 in
theorem MSqrt_even (m : Md) (gp : Nat) (w : World) (hok : m.Ok) (hpm : Has w gp (mdL m) 68) (x n : Nat) (hn : m.M / 4 + 1 = n) (hr : ((x ^ n) * (x ^ n) % m.M == x % m.M) = true) (hb : (x ^ n) % m.M % 2 = 0) :
    Calls Try.prog 60 #[.pointer (some ⟨gp, 0, none⟩), i4 (elN m x)] w fun e w' => e = .returned (.tuple #[i4 (elN m (x ^ n)), .bool true]) ∧ Fr Nob w w' := by
  have HOK := Lib.hid hok
  have HPM := Lib.hid hpm
  clear hok hpm
  have HB := Lib.hid hb
  have HE4 := Lib.hid (show n < B64 ^ 4 by subst hn; have := HOK.out.lt; have := HOK.out.one; omega)
  have h1p := fun wx => plus_any (m.M / 4) 1 wx
  rw [← small_words 1 (by decide), hn] at h1p
  clear hn
  have H1P := Lib.hid h1p
  clear h1p
  have HR := Lib.hid hr
  clear hr
  clear hb
  have st0 := St.start Nob w
  go_enter Try.func60, Try.ntmps60
  go_wp2_with (with_reducible refine wl_stop (o := ⟨some 3, _, _, _, _, _⟩) ?_)
  refine wl_boxS st0 rfl rfl rfl (cw 4 (elN m x)) rfl ?_
  intro g3 w1 st1
  clear st0
  go_wp2_with (with_reducible refine wl_stop (o := ⟨some 4, _, _, _, _, _⟩) ?_)
  refine wl_allocS st1 rfl rfl (z := .agg #[.int .u64 0, .int .u64 0, .int .u64 0, .int .u64 0]) (by kernel_rfl) (cw 4 0) (by rw [cw_zero]; rfl) ?_
  intro g4 w2 st2
  clear st1
  go_wp2_with (with_reducible refine wl_stop (o := ⟨some 13, _, _, _, _, _⟩) ?_)
  refine wl_loadA rfl rfl Try.underlying66 rfl (HPM.out.keep st2.fr id) (cw 4 m.M) (md_M m) (by first | (rw [cw_len]; kernel_rfl) | (simp only [List.length_append, cw_len]; kernel_rfl)) ?_
  go_wp2_with fail
  refine (Shift_any m.M _ HOK.out.lt).mono ?_
  rintro e' w3 ⟨rfl, hf3⟩
  have st3 := st2.keep hf3
  clear st2 hf3
  go_wp2_with fail
  refine (H1P.out _).mono ?_
  rintro e' w4 ⟨rfl, hf4⟩
  have st4 := st3.keep hf4
  clear st3 hf4
  go_wp2_with (with_reducible refine wl_stop (o := ⟨some 6, _, _, _, _, _⟩) ?_)
  refine wl_allocS st4 rfl rfl (z := .agg #[.int .u64 0, .int .u64 0, .int .u64 0, .int .u64 0]) (by kernel_rfl) (cw 4 0) (by rw [cw_zero]; rfl) ?_
  intro g6 w5 st5
  clear st4
  go_wp2_with (with_reducible refine wl_stop (o := ⟨none, _, _, _, _, _⟩) ?_)
  refine wl_storeS st5 2 rfl rfl rfl rfl rfl (by first | (simp only [cw_len]; done) | (simp only [List.length_append, cw_len]; done)) (by first | (rw [cw_len]; kernel_rfl) | (simp only [List.length_append, cw_len]; kernel_rfl)) (cw_one _ _) ?_
  intro w6 st6
  clear st5
  go_wp2_with (with_reducible refine wl_stop (o := ⟨some 20, _, _, _, _, _⟩) ?_)
  refine wl_loadS st6 0 rfl rfl rfl Try.underlying81 rfl (by first | (rw [cw_len]; kernel_rfl) | (simp only [List.length_append, cw_len]; kernel_rfl)) ?_
  go_wp2_with (with_reducible refine wl_stop (o := ⟨some 21, _, _, _, _, _⟩) ?_)
  refine wl_loadS st6 2 rfl rfl rfl Try.underlying66 rfl (by first | (rw [cw_len]; kernel_rfl) | (simp only [List.length_append, cw_len]; kernel_rfl)) ?_
  go_wp2_with fail
  refine (MPow_any m gp _ HOK.out (HPM.out.keep st6.fr id) x n HE4.out).mono ?_
  rintro e' w7 ⟨rfl, hf7⟩
  have st7 := st6.keep hf7
  clear st6 hf7
  go_wp2_with (with_reducible refine wl_stop (o := ⟨some 8, _, _, _, _, _⟩) ?_)
  refine wl_allocS st7 rfl rfl (z := .agg #[.int .u64 0, .int .u64 0, .int .u64 0, .int .u64 0]) (by kernel_rfl) (cw 4 0) (by rw [cw_zero]; rfl) ?_
  intro g8 w8 st8
  clear st7
  go_wp2_with (with_reducible refine wl_stop (o := ⟨none, _, _, _, _, _⟩) ?_)
  refine wl_storeS st8 3 rfl rfl rfl rfl rfl (by first | (simp only [cw_len]; done) | (simp only [List.length_append, cw_len]; done)) (by first | (rw [cw_len]; kernel_rfl) | (simp only [List.length_append, cw_len]; kernel_rfl)) (cw_one _ _) ?_
  intro w9 st9
  clear st8
  go_wp2_with fail
  refine wp_region_noPanic ?_
  refine wp_region_plan (fun wx => St Nob w wx [(g3, cw 4 (elN m x), 81), (g4, cw 4 0, 81), (g6, cw 4 n, 66), (g8, cw 4 (elN m (x ^ n)), 81)]) 4 (.w 0 (.t 1 (.t 3 (.r 2 (.m 4 .nil))))) (by kernel_rfl) (by kernel_rfl) st9.drew (fun _ _ _ _ _ h => h) ?_
  have hd9 := st9.drew
  clear st9
  refine plan_w (v := ?_) rfl rfl (fun wx => ?_) ?_
  rotate_left 1
  · (go_simp; with_reducible rfl)
  try simp only [Act.put, List.setIfInBounds_toArray, List.set_cons_zero, List.set_cons_succ]
  refine plan_arr rfl rfl rfl rfl (cw 4 (elN m (x ^ n))) (fun wx hS => St.rangeL hS 3 rfl 0 _ (by rw [List.drop_zero, List.take_of_length_le (Nat.le_refl _)])) Try.underlying81 rfl (by first | (rw [cw_len]; kernel_rfl) | (simp only [List.length_append, cw_len]; kernel_rfl)) ?_
  try simp only [Act.put, List.setIfInBounds_toArray, List.set_cons_zero, List.set_cons_succ]
  refine plan_arr rfl rfl rfl rfl (cw 4 (elN m x)) (fun wx hS => St.rangeL hS 0 rfl 0 _ (by rw [List.drop_zero, List.take_of_length_le (Nat.le_refl _)])) Try.underlying81 rfl (by first | (rw [cw_len]; kernel_rfl) | (simp only [List.length_append, cw_len]; kernel_rfl)) ?_
  try simp only [Act.put, List.setIfInBounds_toArray, List.set_cons_zero, List.set_cons_succ]
  refine plan_r rfl rfl ?_
  go_simp
  refine (MSquare_any m gp _ HOK.out (HPM.out.keep hd9.fr id) (x ^ n)).mono ?_
  rintro e' w10 ⟨rfl, hf10⟩
  have st10 := hd9.keep hf10
  clear hf10
  clear hd9
  refine ⟨st10, ?_⟩
  try simp only [Act.put, List.setIfInBounds_toArray, List.set_cons_zero, List.set_cons_succ]
  refine plan_m rfl rfl ?_
  refine wp_elneq m HOK.out ((x ^ n) * (x ^ n)) x 81 Try.underlying81 Try.eqGuardType81 rfl rfl rfl HR.out ?_
  try simp only [Act.put, List.setIfInBounds_toArray, List.set_cons_zero, List.set_cons_succ]
  refine plan_end ?_
  refine NoPanic.normal ?_
  have hix := fun wx => low_word ((x ^ n) % m.M) wx
  have hla := low_and ((x ^ n) % m.M)
  rw [HB.out] at hla
  go_wp2_with (with_reducible refine wl_stop (o := ⟨some 30, _, _, _, _, _⟩) ?_)
  refine wl_loadS st10 3 rfl rfl rfl Try.underlying81 rfl (by first | (rw [cw_len]; kernel_rfl) | (simp only [List.length_append, cw_len]; kernel_rfl)) ?_
  go_wp2_with fail
  refine (MFrom_any m gp _ HOK.out (HPM.out.keep st10.fr id) (x ^ n)).mono ?_
  rintro e' w11 ⟨rfl, hf11⟩
  have st11 := st10.keep hf11
  clear st10 hf11
  go_wp2_with (with_reducible refine wl_stop (o := ⟨some 38, _, _, _, _, _⟩) ?_)
  refine wl_loadS st11 3 rfl rfl rfl Try.underlying81 rfl (by first | (rw [cw_len]; kernel_rfl) | (simp only [List.length_append, cw_len]; kernel_rfl)) ?_
  go_wp2_with (with_reducible refine wl_stop (o := ⟨none, _, _, _, _, _⟩) ?_)
  refine wl_storeS st11 1 rfl rfl rfl rfl rfl (by first | (simp only [cw_len]; done) | (simp only [List.length_append, cw_len]; done)) (by first | (rw [cw_len]; kernel_rfl) | (simp only [List.length_append, cw_len]; kernel_rfl)) (cw_one _ _) ?_
  intro w12 st12
  clear st11
  have hr := st12.at 1 rfl
  have hfr := st12.fr
  clear st12
  go_wp2_with fail
  exact bodyPost_ret (results_arr2 rfl rfl hr Try.underlying81 (by first | (rw [cw_len]; kernel_rfl) | (simp only [List.length_append, cw_len]; kernel_rfl)) rfl) rfl ⟨rfl, hfr⟩

set_option maxHeartbeats 8000000 in
set_option maxRecDepth 100000 in
theorem MSqrt_odd (m : Md) (gp : Nat) (w : World) (hok : m.Ok) (hpm : Has w gp (mdL m) 68) (x n : Nat) (hn : m.M / 4 + 1 = n) (hr : ((x ^ n) * (x ^ n) % m.M == x % m.M) = true) (hb : (x ^ n) % m.M % 2 = 1) :
    Calls Try.prog 60 #[.pointer (some ⟨gp, 0, none⟩), i4 (elN m x)] w fun e w' => e = .returned (.tuple #[i4 (elN m (m.M - (x ^ n) % m.M)), .bool true]) ∧ Fr Nob w w' := by
  have HOK := Lib.hid hok
  have HPM := Lib.hid hpm
  clear hok hpm
  have HB := Lib.hid hb
  have HE4 := Lib.hid (show n < B64 ^ 4 by subst hn; have := HOK.out.lt; have := HOK.out.one; omega)
  have h1p := fun wx => plus_any (m.M / 4) 1 wx
  rw [← small_words 1 (by decide), hn] at h1p
  clear hn
  have H1P := Lib.hid h1p
  clear h1p
  have HR := Lib.hid hr
  clear hr
  clear hb
  have st0 := St.start Nob w
  go_enter Try.func60, Try.ntmps60
  go_wp2_with (with_reducible refine wl_stop (o := ⟨some 3, _, _, _, _, _⟩) ?_)
  refine wl_boxS st0 rfl rfl rfl (cw 4 (elN m x)) rfl ?_
  intro g3 w1 st1
  clear st0
  go_wp2_with (with_reducible refine wl_stop (o := ⟨some 4, _, _, _, _, _⟩) ?_)
  refine wl_allocS st1 rfl rfl (z := .agg #[.int .u64 0, .int .u64 0, .int .u64 0, .int .u64 0]) (by kernel_rfl) (cw 4 0) (by rw [cw_zero]; rfl) ?_
  intro g4 w2 st2
  clear st1
  go_wp2_with (with_reducible refine wl_stop (o := ⟨some 13, _, _, _, _, _⟩) ?_)
  refine wl_loadA rfl rfl Try.underlying66 rfl (HPM.out.keep st2.fr id) (cw 4 m.M) (md_M m) (by first | (rw [cw_len]; kernel_rfl) | (simp only [List.length_append, cw_len]; kernel_rfl)) ?_
  go_wp2_with fail
  refine (Shift_any m.M _ HOK.out.lt).mono ?_
  rintro e' w3 ⟨rfl, hf3⟩
  have st3 := st2.keep hf3
  clear st2 hf3
  go_wp2_with fail
  refine (H1P.out _).mono ?_
  rintro e' w4 ⟨rfl, hf4⟩
  have st4 := st3.keep hf4
  clear st3 hf4
  go_wp2_with (with_reducible refine wl_stop (o := ⟨some 6, _, _, _, _, _⟩) ?_)
  refine wl_allocS st4 rfl rfl (z := .agg #[.int .u64 0, .int .u64 0, .int .u64 0, .int .u64 0]) (by kernel_rfl) (cw 4 0) (by rw [cw_zero]; rfl) ?_
  intro g6 w5 st5
  clear st4
  go_wp2_with (with_reducible refine wl_stop (o := ⟨none, _, _, _, _, _⟩) ?_)
  refine wl_storeS st5 2 rfl rfl rfl rfl rfl (by first | (simp only [cw_len]; done) | (simp only [List.length_append, cw_len]; done)) (by first | (rw [cw_len]; kernel_rfl) | (simp only [List.length_append, cw_len]; kernel_rfl)) (cw_one _ _) ?_
  intro w6 st6
  clear st5
  go_wp2_with (with_reducible refine wl_stop (o := ⟨some 20, _, _, _, _, _⟩) ?_)
  refine wl_loadS st6 0 rfl rfl rfl Try.underlying81 rfl (by first | (rw [cw_len]; kernel_rfl) | (simp only [List.length_append, cw_len]; kernel_rfl)) ?_
  go_wp2_with (with_reducible refine wl_stop (o := ⟨some 21, _, _, _, _, _⟩) ?_)
  refine wl_loadS st6 2 rfl rfl rfl Try.underlying66 rfl (by first | (rw [cw_len]; kernel_rfl) | (simp only [List.length_append, cw_len]; kernel_rfl)) ?_
  go_wp2_with fail
  refine (MPow_any m gp _ HOK.out (HPM.out.keep st6.fr id) x n HE4.out).mono ?_
  rintro e' w7 ⟨rfl, hf7⟩
  have st7 := st6.keep hf7
  clear st6 hf7
  go_wp2_with (with_reducible refine wl_stop (o := ⟨some 8, _, _, _, _, _⟩) ?_)
  refine wl_allocS st7 rfl rfl (z := .agg #[.int .u64 0, .int .u64 0, .int .u64 0, .int .u64 0]) (by kernel_rfl) (cw 4 0) (by rw [cw_zero]; rfl) ?_
  intro g8 w8 st8
  clear st7
  go_wp2_with (with_reducible refine wl_stop (o := ⟨none, _, _, _, _, _⟩) ?_)
  refine wl_storeS st8 3 rfl rfl rfl rfl rfl (by first | (simp only [cw_len]; done) | (simp only [List.length_append, cw_len]; done)) (by first | (rw [cw_len]; kernel_rfl) | (simp only [List.length_append, cw_len]; kernel_rfl)) (cw_one _ _) ?_
  intro w9 st9
  clear st8
  go_wp2_with fail
  refine wp_region_noPanic ?_
  refine wp_region_plan (fun wx => St Nob w wx [(g3, cw 4 (elN m x), 81), (g4, cw 4 0, 81), (g6, cw 4 n, 66), (g8, cw 4 (elN m (x ^ n)), 81)]) 4 (.w 0 (.t 1 (.t 3 (.r 2 (.m 4 .nil))))) (by kernel_rfl) (by kernel_rfl) st9.drew (fun _ _ _ _ _ h => h) ?_
  have hd9 := st9.drew
  clear st9
  refine plan_w (v := ?_) rfl rfl (fun wx => ?_) ?_
  rotate_left 1
  · (go_simp; with_reducible rfl)
  try simp only [Act.put, List.setIfInBounds_toArray, List.set_cons_zero, List.set_cons_succ]
  refine plan_arr rfl rfl rfl rfl (cw 4 (elN m (x ^ n))) (fun wx hS => St.rangeL hS 3 rfl 0 _ (by rw [List.drop_zero, List.take_of_length_le (Nat.le_refl _)])) Try.underlying81 rfl (by first | (rw [cw_len]; kernel_rfl) | (simp only [List.length_append, cw_len]; kernel_rfl)) ?_
  try simp only [Act.put, List.setIfInBounds_toArray, List.set_cons_zero, List.set_cons_succ]
  refine plan_arr rfl rfl rfl rfl (cw 4 (elN m x)) (fun wx hS => St.rangeL hS 0 rfl 0 _ (by rw [List.drop_zero, List.take_of_length_le (Nat.le_refl _)])) Try.underlying81 rfl (by first | (rw [cw_len]; kernel_rfl) | (simp only [List.length_append, cw_len]; kernel_rfl)) ?_
  try simp only [Act.put, List.setIfInBounds_toArray, List.set_cons_zero, List.set_cons_succ]
  refine plan_r rfl rfl ?_
  go_simp
  refine (MSquare_any m gp _ HOK.out (HPM.out.keep hd9.fr id) (x ^ n)).mono ?_
  rintro e' w10 ⟨rfl, hf10⟩
  have st10 := hd9.keep hf10
  clear hf10
  clear hd9
  refine ⟨st10, ?_⟩
  try simp only [Act.put, List.setIfInBounds_toArray, List.set_cons_zero, List.set_cons_succ]
  refine plan_m rfl rfl ?_
  refine wp_elneq m HOK.out ((x ^ n) * (x ^ n)) x 81 Try.underlying81 Try.eqGuardType81 rfl rfl rfl HR.out ?_
  try simp only [Act.put, List.setIfInBounds_toArray, List.set_cons_zero, List.set_cons_succ]
  refine plan_end ?_
  refine NoPanic.normal ?_
  have hix := fun wx => low_word ((x ^ n) % m.M) wx
  have hla := low_and ((x ^ n) % m.M)
  rw [HB.out] at hla
  go_wp2_with (with_reducible refine wl_stop (o := ⟨some 30, _, _, _, _, _⟩) ?_)
  refine wl_loadS st10 3 rfl rfl rfl Try.underlying81 rfl (by first | (rw [cw_len]; kernel_rfl) | (simp only [List.length_append, cw_len]; kernel_rfl)) ?_
  go_wp2_with fail
  refine (MFrom_any m gp _ HOK.out (HPM.out.keep st10.fr id) (x ^ n)).mono ?_
  rintro e' w11 ⟨rfl, hf11⟩
  have st11 := st10.keep hf11
  clear st10 hf11
  go_wp2_with (with_reducible refine wl_stop (o := ⟨some 36, _, _, _, _, _⟩) ?_)
  refine wl_loadS st11 3 rfl rfl rfl Try.underlying81 rfl (by first | (rw [cw_len]; kernel_rfl) | (simp only [List.length_append, cw_len]; kernel_rfl)) ?_
  go_wp2_with fail
  refine (MNeg_any m gp _ HOK.out (HPM.out.keep st11.fr id) (x ^ n)).mono ?_
  rintro e' w12 ⟨rfl, hf12⟩
  have st12 := st11.keep hf12
  clear st11 hf12
  go_wp2_with (with_reducible refine wl_stop (o := ⟨none, _, _, _, _, _⟩) ?_)
  refine wl_storeS st12 3 rfl rfl rfl rfl rfl (by first | (simp only [cw_len]; done) | (simp only [List.length_append, cw_len]; done)) (by first | (rw [cw_len]; kernel_rfl) | (simp only [List.length_append, cw_len]; kernel_rfl)) (cw_one _ _) ?_
  intro w13 st13
  clear st12
  go_wp2_with (with_reducible refine wl_stop (o := ⟨some 38, _, _, _, _, _⟩) ?_)
  refine wl_loadS st13 3 rfl rfl rfl Try.underlying81 rfl (by first | (rw [cw_len]; kernel_rfl) | (simp only [List.length_append, cw_len]; kernel_rfl)) ?_
  go_wp2_with (with_reducible refine wl_stop (o := ⟨none, _, _, _, _, _⟩) ?_)
  refine wl_storeS st13 1 rfl rfl rfl rfl rfl (by first | (simp only [cw_len]; done) | (simp only [List.length_append, cw_len]; done)) (by first | (rw [cw_len]; kernel_rfl) | (simp only [List.length_append, cw_len]; kernel_rfl)) (cw_one _ _) ?_
  intro w14 st14
  clear st13
  have hr := st14.at 1 rfl
  have hfr := st14.fr
  clear st14
  go_wp2_with fail
  exact bodyPost_ret (results_arr2 rfl rfl hr Try.underlying81 (by first | (rw [cw_len]; kernel_rfl) | (simp only [List.length_append, cw_len]; kernel_rfl)) rfl) rfl ⟨rfl, hfr⟩
end Go.Proofs.Ytmegaegedlbckaa
