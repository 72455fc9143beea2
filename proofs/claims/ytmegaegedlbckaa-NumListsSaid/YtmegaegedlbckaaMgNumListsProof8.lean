/- mont: One, To, From, Add, Sub, Neg, Square, Pow, Inv, Less: at the level of the numbers that the elements stand for; mont: Pow, Inv, fold, Reduce. -/
import Derived.Test.YtmegaegedlbckaaMgNumListsProof7
namespace Go.Proofs.Ytmegaegedlbckaa
open Go.RowKit Go.Mv Mvp
attribute [local irreducible] limbs lw mix cw cSub cAdd cMul foldC valFrom beN laid be32 powm montT mstep elN

set_option maxHeartbeats 8000000 in
set_option maxRecDepth 100000 in
theorem MOne_any (m : Md) (gp : Nat) (w : World) (hok : m.Ok) (hpm : Has w gp (mdL m) 68)  :
    Calls Try.prog 44 #[.pointer (some ⟨gp, 0, none⟩)] w fun e w' => e = .returned (i4 (elN m 1)) ∧ Fr Nob w w' := by
  have HOK := Lib.hid hok
  have HPM := Lib.hid hpm
  clear hok hpm
  have st0 := St.start Nob w
  go_enter Try.func44, Try.ntmps44
  go_wp2_with (with_reducible refine wl_stop (o := ⟨some 2, _, _, _, _, _⟩) ?_)
  refine wl_allocS st0 rfl rfl (z := .agg #[.int .u64 0, .int .u64 0, .int .u64 0, .int .u64 0]) (by kernel_rfl) (cw 4 0) (by rw [cw_zero]; rfl) ?_
  intro g2 w1 st1
  clear st0
  go_wp2_with (with_reducible refine wl_stop (o := ⟨some 6, _, _, _, _, _⟩) ?_)
  refine wl_loadA rfl rfl Try.underlying66 rfl (HPM.out.keep st1.fr id) (cw 4 (B64 ^ 4 % m.M)) (md_one m) (by first | (rw [cw_len]; kernel_rfl) | (simp only [List.length_append, cw_len]; kernel_rfl)) ?_
  go_wp2_with (with_reducible refine wl_stop (o := ⟨none, _, _, _, _, _⟩) ?_)
  refine wl_storeS st1 0 rfl rfl rfl rfl rfl (by first | (simp only [cw_len]; done) | (simp only [List.length_append, cw_len]; done)) (by first | (rw [cw_len]; kernel_rfl) | (simp only [List.length_append, cw_len]; kernel_rfl)) (cw_one _ _) ?_
  intro w2 st2
  clear st1
  have hr := st2.at 0 rfl
  have hfr := st2.fr
  clear st2
  go_wp2_with fail
  exact bodyPost_ret (results_arr rfl rfl hr Try.underlying81 (by first | (rw [cw_len]; kernel_rfl) | (simp only [List.length_append, cw_len]; kernel_rfl))) rfl ⟨by rw [← el_one m]; rfl, hfr⟩

set_option maxHeartbeats 8000000 in
set_option maxRecDepth 100000 in
theorem Mint_any (a : Nat) (w : World) :
    Calls Try.prog 71 #[i4 a] w fun e w' => e = .returned (i4 a) ∧ Fr Nob w w' := by
  have st0 := St.start Nob w
  go_enter Try.func71, Try.ntmps71
  go_wp2_with (with_reducible refine wl_stop (o := ⟨some 1, _, _, _, _, _⟩) ?_)
  refine wl_boxS st0 rfl rfl rfl (cw 4 a) rfl ?_
  intro g1 w1 st1
  clear st0
  go_wp2_with (with_reducible refine wl_stop (o := ⟨some 2, _, _, _, _, _⟩) ?_)
  refine wl_allocS st1 rfl rfl (z := .agg #[.int .u64 0, .int .u64 0, .int .u64 0, .int .u64 0]) (by kernel_rfl) (cw 4 0) (by rw [cw_zero]; rfl) ?_
  intro g2 w2 st2
  clear st1
  go_wp2_with (with_reducible refine wl_stop (o := ⟨some 3, _, _, _, _, _⟩) ?_)
  refine wl_loadS st2 0 rfl rfl rfl Try.underlying81 rfl (by first | (rw [cw_len]; kernel_rfl) | (simp only [List.length_append, cw_len]; kernel_rfl)) ?_
  go_wp2_with (with_reducible refine wl_stop (o := ⟨none, _, _, _, _, _⟩) ?_)
  refine wl_storeS st2 1 rfl rfl rfl rfl rfl (by first | (simp only [cw_len]; done) | (simp only [List.length_append, cw_len]; done)) (by first | (rw [cw_len]; kernel_rfl) | (simp only [List.length_append, cw_len]; kernel_rfl)) (cw_one _ _) ?_
  intro w3 st3
  clear st2
  have hr := st3.at 1 rfl
  have hfr := st3.fr
  clear st3
  go_wp2_with fail
  exact bodyPost_ret (results_arr rfl rfl hr Try.underlying66 (by first | (rw [cw_len]; kernel_rfl) | (simp only [List.length_append, cw_len]; kernel_rfl))) rfl ⟨rfl, hfr⟩

set_option maxHeartbeats 8000000 in
set_option maxRecDepth 100000 in
theorem MLess_any (a b : Nat) (w : World) (ha : a < B64 ^ 4) (hb : b < B64 ^ 4) :
    Calls Try.prog 66 #[i4 a, i4 b] w fun e w' => e = .returned (.bool (decide (a < b))) ∧ Fr Nob w w' := by
  have HA := Lib.hid ha
  have HB := Lib.hid hb
  clear ha hb
  have st0 := St.start Nob w
  go_enter Try.func66, Try.ntmps66
  go_wp2_with (with_reducible refine wl_stop (o := ⟨some 2, _, _, _, _, _⟩) ?_)
  refine wl_boxS st0 rfl rfl rfl (cw 4 a) rfl ?_
  intro g2 w1 st1
  clear st0
  go_wp2_with (with_reducible refine wl_stop (o := ⟨some 3, _, _, _, _, _⟩) ?_)
  refine wl_boxS st1 rfl rfl rfl (cw 4 b) rfl ?_
  intro g3 w2 st2
  clear st1
  have HCS := Lib.hid (cSub_all a b 4 HA.out HB.out)
  go_wp2_with (with_reducible refine wl_stop (o := ⟨some 8, _, _, _, _, _⟩) ?_)
  refine wl_loadS st2 0 rfl rfl rfl Try.underlying66 rfl (by first | (rw [cw_len]; kernel_rfl) | (simp only [List.length_append, cw_len]; kernel_rfl)) ?_
  go_wp2_with (with_reducible refine wl_stop (o := ⟨some 9, _, _, _, _, _⟩) ?_)
  refine wl_loadS st2 1 rfl rfl rfl Try.underlying66 rfl (by first | (rw [cw_len]; kernel_rfl) | (simp only [List.length_append, cw_len]; kernel_rfl)) ?_
  go_wp2_with fail
  refine (minus_any a b _ HB.out).mono ?_
  rintro e' w3 ⟨rfl, hf3⟩
  have st3 := st2.keep hf3
  clear st2 hf3
  go_wp2_with (with_reducible refine wl_stop (o := ⟨some 5, _, _, _, _, _⟩) ?_)
  refine wl_allocS st3 rfl rfl (z := .agg #[.int .u64 0, .int .u64 0, .int .u64 0, .int .u64 0]) (by kernel_rfl) (cw 4 0) (by rw [cw_zero]; rfl) ?_
  intro g5 w4 st4
  clear st3
  go_wp2_with (with_reducible refine wl_stop (o := ⟨none, _, _, _, _, _⟩) ?_)
  refine wl_storeS st4 2 rfl rfl rfl rfl rfl (by first | (simp only [cw_len]; done) | (simp only [List.length_append, cw_len]; done)) (by first | (rw [cw_len]; kernel_rfl) | (simp only [List.length_append, cw_len]; kernel_rfl)) (cw_one _ _) ?_
  intro w5 st5
  clear st4
  have hfr := st5.fr
  clear st5
  have hcs := HCS.out
  clear HCS
  by_cases hlt : a < b
  · rw [if_pos hlt] at hcs
    rw [hcs]
    have HLT := Lib.hid hlt
    clear hlt hcs
    go_wp2_with fail
    go_ret
    exact ⟨by rw [decide_eq_true HLT.out]; rfl, hfr⟩
  · rw [if_neg hlt] at hcs
    rw [hcs]
    have HLT := Lib.hid hlt
    clear hlt hcs
    go_wp2_with fail
    go_ret
    exact ⟨by rw [decide_eq_false HLT.out]; rfl, hfr⟩

set_option maxHeartbeats 8000000 in
set_option maxRecDepth 100000 in
theorem MTo_any (m : Md) (gp : Nat) (w : World) (hok : m.Ok) (hpm : Has w gp (mdL m) 68) (n : Nat) (hn : n < B64 ^ 4) :
    Calls Try.prog 67 #[.pointer (some ⟨gp, 0, none⟩), i4 n] w fun e w' => e = .returned (i4 (elN m n)) ∧ Fr Nob w w' := by
  have HOK := Lib.hid hok
  have HPM := Lib.hid hpm
  clear hok hpm
  have HN := Lib.hid hn
  clear hn
  have st0 := St.start Nob w
  go_enter Try.func67, Try.ntmps67
  go_wp2_with (with_reducible refine wl_stop (o := ⟨some 3, _, _, _, _, _⟩) ?_)
  refine wl_boxS st0 rfl rfl rfl (cw 4 n) rfl ?_
  intro g3 w1 st1
  clear st0
  go_wp2_with (with_reducible refine wl_stop (o := ⟨some 4, _, _, _, _, _⟩) ?_)
  refine wl_allocS st1 rfl rfl (z := .agg #[.int .u64 0, .int .u64 0, .int .u64 0, .int .u64 0]) (by kernel_rfl) (cw 4 0) (by rw [cw_zero]; rfl) ?_
  intro g4 w2 st2
  clear st1
  go_wp2_with fail
  refine wp_region_noPanic ?_
  refine wp_region_plan (fun wx => St Nob w wx [(g3, cw 4 n, 66), (g4, cw 4 0, 81)]) 7 (.w 0 (.t 1 (.w 2 (.w 3 (.w 4 (.t 5 (.r 6 (.m 7 .nil)))))))) (by kernel_rfl) (by kernel_rfl) st2.drew (fun _ _ _ _ _ h => h) ?_
  have hd2 := st2.drew
  clear st2
  refine plan_w (v := ?_) rfl rfl (fun wx => ?_) ?_
  rotate_left 1
  · (go_simp; with_reducible rfl)
  try simp only [Act.put, List.setIfInBounds_toArray, List.set_cons_zero, List.set_cons_succ]
  refine plan_arr rfl rfl rfl rfl (cw 4 n) (fun wx hS => St.rangeL hS 0 rfl 0 _ (by rw [List.drop_zero, List.take_of_length_le (Nat.le_refl _)])) Try.underlying66 rfl (by first | (rw [cw_len]; kernel_rfl) | (simp only [List.length_append, cw_len]; kernel_rfl)) ?_
  try simp only [Act.put, List.setIfInBounds_toArray, List.set_cons_zero, List.set_cons_succ]
  refine plan_w (v := ?_) rfl rfl (fun wx => ?_) ?_
  rotate_left 1
  · (go_simp; with_reducible rfl)
  try simp only [Act.put, List.setIfInBounds_toArray, List.set_cons_zero, List.set_cons_succ]
  refine plan_w (v := ?_) rfl rfl (fun wx => ?_) ?_
  rotate_left 1
  · (go_simp; with_reducible rfl)
  try simp only [Act.put, List.setIfInBounds_toArray, List.set_cons_zero, List.set_cons_succ]
  refine plan_w (v := ?_) rfl rfl (fun wx => ?_) ?_
  rotate_left 1
  · (go_simp; with_reducible rfl)
  try simp only [Act.put, List.setIfInBounds_toArray, List.set_cons_zero, List.set_cons_succ]
  refine plan_arr rfl rfl rfl rfl (cw 4 (B64 ^ 4 * B64 ^ 4 % m.M)) (fun wx hS => (HPM.out.keep (St.fr hS) id).range 9 _ (md_sq m)) Try.underlying66 rfl (by first | (rw [cw_len]; kernel_rfl) | (simp only [List.length_append, cw_len]; kernel_rfl)) ?_
  try simp only [Act.put, List.setIfInBounds_toArray, List.set_cons_zero, List.set_cons_succ]
  refine plan_r rfl rfl ?_
  go_simp
  refine (MMul_any m gp n (B64 ^ 4 * B64 ^ 4 % m.M) _ HOK.out (HPM.out.keep hd2.fr id) HN.out (Nat.mod_lt _ (by have := HOK.out.one; omega))).mono ?_
  rintro e' w3 ⟨rfl, hf3⟩
  have st3 := hd2.keep hf3
  clear hf3
  clear hd2
  refine ⟨st3, ?_⟩
  try simp only [Act.put, List.setIfInBounds_toArray, List.set_cons_zero, List.set_cons_succ]
  refine plan_m rfl rfl ?_
  refine wp_storeS st3 1 rfl rfl rfl rfl (by first | (simp only [cw_len]; done) | (simp only [List.length_append, cw_len]; done)) (by first | (rw [cw_len]; kernel_rfl) | (simp only [List.length_append, cw_len]; kernel_rfl)) (cw_one _ _) ?_
  intro w4 st4
  clear st3
  try simp only [Act.put]
  refine plan_end ?_
  refine NoPanic.normal ?_
  have hr := st4.at 1 rfl
  have hfr := st4.fr
  clear st4
  go_wp2_with fail
  exact bodyPost_ret (results_arr rfl rfl hr Try.underlying81 (by first | (rw [cw_len]; kernel_rfl) | (simp only [List.length_append, cw_len]; kernel_rfl))) rfl ⟨by rw [← el_to m HOK.out n]; rfl, hfr⟩

set_option maxHeartbeats 8000000 in
set_option maxRecDepth 100000 in
theorem MFrom_any (m : Md) (gp : Nat) (w : World) (hok : m.Ok) (hpm : Has w gp (mdL m) 68) (x : Nat) :
    Calls Try.prog 46 #[.pointer (some ⟨gp, 0, none⟩), i4 (elN m x)] w fun e w' => e = .returned (i4 (x % m.M)) ∧ Fr Nob w w' := by
  have HOK := Lib.hid hok
  have HPM := Lib.hid hpm
  clear hok hpm
  have hmul := fun wx (h : Has wx gp (mdL m) 68) => MMul_any m gp (elN m x) 1 wx HOK.out h (el_lt4 m HOK.out x) HOK.out.one
  rw [el_from m HOK.out x, ← small_words 1 (by decide)] at hmul
  have HMUL := Lib.hid hmul
  clear hmul
  have st0 := St.start Nob w
  go_enter Try.func46, Try.ntmps46
  go_wp2_with (with_reducible refine wl_stop (o := ⟨some 3, _, _, _, _, _⟩) ?_)
  refine wl_boxS st0 rfl rfl rfl (cw 4 (elN m x)) rfl ?_
  intro g3 w1 st1
  clear st0
  go_wp2_with (with_reducible refine wl_stop (o := ⟨some 4, _, _, _, _, _⟩) ?_)
  refine wl_allocS st1 rfl rfl (z := .agg #[.int .u64 0, .int .u64 0, .int .u64 0, .int .u64 0]) (by kernel_rfl) (cw 4 0) (by rw [cw_zero]; rfl) ?_
  intro g4 w2 st2
  clear st1
  go_wp2_with (with_reducible refine wl_stop (o := ⟨some 6, _, _, _, _, _⟩) ?_)
  refine wl_loadS st2 0 rfl rfl rfl Try.underlying81 rfl (by first | (rw [cw_len]; kernel_rfl) | (simp only [List.length_append, cw_len]; kernel_rfl)) ?_
  go_wp2_with fail
  refine (HMUL.out _ (HPM.out.keep st2.fr id)).mono ?_
  rintro e' w3 ⟨rfl, hf3⟩
  have st3 := st2.keep hf3
  clear st2 hf3
  go_wp2_with fail
  refine (Mint_any (x % m.M) _).mono ?_
  rintro e' w4 ⟨rfl, hf4⟩
  have st4 := st3.keep hf4
  clear st3 hf4
  go_wp2_with (with_reducible refine wl_stop (o := ⟨none, _, _, _, _, _⟩) ?_)
  refine wl_storeS st4 1 rfl rfl rfl rfl rfl (by first | (simp only [cw_len]; done) | (simp only [List.length_append, cw_len]; done)) (by first | (rw [cw_len]; kernel_rfl) | (simp only [List.length_append, cw_len]; kernel_rfl)) (cw_one _ _) ?_
  intro w5 st5
  clear st4
  have hr := st5.at 1 rfl
  have hfr := st5.fr
  clear st5
  go_wp2_with fail
  exact bodyPost_ret (results_arr rfl rfl hr Try.underlying66 (by first | (rw [cw_len]; kernel_rfl) | (simp only [List.length_append, cw_len]; kernel_rfl))) rfl ⟨rfl, hfr⟩

set_option maxHeartbeats 8000000 in
set_option maxRecDepth 100000 in
theorem MAdd_any (m : Md) (gp : Nat) (w : World) (hok : m.Ok) (hpm : Has w gp (mdL m) 68) (x y : Nat) :
    Calls Try.prog 47 #[.pointer (some ⟨gp, 0, none⟩), i4 (elN m x), i4 (elN m y)] w fun e w' => e = .returned (i4 (elN m (x + y))) ∧ Fr Nob w w' := by
  have HOK := Lib.hid hok
  have HPM := Lib.hid hpm
  clear hok hpm
  have hx := el_lt m HOK.out x
  have hy := el_lt m HOK.out y
  have HCA := Lib.hid (add_carry (elN m x) (elN m y) (Nat.lt_trans hx HOK.out.lt) (Nat.lt_trans hy HOK.out.lt))
  have HFIN := Lib.hid (mont_final (elN m x + elN m y) m.M HOK.out.lt (by omega))
  have H2 := Lib.hid (show (elN m x + elN m y) < 2 * B64 ^ 4 by have := HOK.out.lt; omega)
  clear hx hy
  have st0 := St.start Nob w
  go_enter Try.func47, Try.ntmps47
  go_wp2_with (with_reducible refine wl_stop (o := ⟨some 4, _, _, _, _, _⟩) ?_)
  refine wl_boxS st0 rfl rfl rfl (cw 4 (elN m x)) rfl ?_
  intro g4 w1 st1
  clear st0
  go_wp2_with (with_reducible refine wl_stop (o := ⟨some 5, _, _, _, _, _⟩) ?_)
  refine wl_boxS st1 rfl rfl rfl (cw 4 (elN m y)) rfl ?_
  intro g5 w2 st2
  clear st1
  go_wp2_with (with_reducible refine wl_stop (o := ⟨some 6, _, _, _, _, _⟩) ?_)
  refine wl_allocS st2 rfl rfl (z := .agg #[.int .u64 0, .int .u64 0, .int .u64 0, .int .u64 0]) (by kernel_rfl) (cw 4 0) (by rw [cw_zero]; rfl) ?_
  intro g6 w3 st3
  clear st2
  go_wp2_with (with_reducible refine wl_stop (o := ⟨some 12, _, _, _, _, _⟩) ?_)
  refine wl_loadS st3 0 rfl rfl rfl Try.underlying81 rfl (by first | (rw [cw_len]; kernel_rfl) | (simp only [List.length_append, cw_len]; kernel_rfl)) ?_
  go_wp2_with (with_reducible refine wl_stop (o := ⟨some 13, _, _, _, _, _⟩) ?_)
  refine wl_loadS st3 1 rfl rfl rfl Try.underlying81 rfl (by first | (rw [cw_len]; kernel_rfl) | (simp only [List.length_append, cw_len]; kernel_rfl)) ?_
  go_wp2_with fail
  refine (plus_any (elN m x) (elN m y) _).mono ?_
  rintro e' w4 ⟨rfl, hf4⟩
  have st4 := st3.keep hf4
  clear st3 hf4
  go_wp2_with (with_reducible refine wl_stop (o := ⟨some 7, _, _, _, _, _⟩) ?_)
  refine wl_allocS st4 rfl rfl (z := .agg #[.int .u64 0, .int .u64 0, .int .u64 0, .int .u64 0]) (by kernel_rfl) (cw 4 0) (by rw [cw_zero]; rfl) ?_
  intro g7 w5 st5
  clear st4
  go_wp2_with (with_reducible refine wl_stop (o := ⟨none, _, _, _, _, _⟩) ?_)
  refine wl_storeS st5 3 rfl rfl rfl rfl rfl (by first | (simp only [cw_len]; done) | (simp only [List.length_append, cw_len]; done)) (by first | (rw [cw_len]; kernel_rfl) | (simp only [List.length_append, cw_len]; kernel_rfl)) (cw_one _ _) ?_
  intro w6 st6
  clear st5
  go_wp2_with fail
  refine wp_region_noPanic ?_
  refine wp_region_plan (fun wx => St Nob w wx [(g4, cw 4 (elN m x), 81), (g5, cw 4 (elN m y), 81), (g6, cw 4 0, 81), (g7, cw 4 (elN m x + elN m y), 66)]) 11 (.t 0 (.w 1 (.w 2 (.w 3 (.t 4 (.b 5 9 (.w 6 (.w 7 (.w 8 (.r 9 (.r 10 (.m 11 .nil)))))) (.r 5 (.w 6 (.w 7 (.w 8 (.r 10 (.m 11 .nil)))))))))))) (by kernel_rfl) (by kernel_rfl) st6.drew (fun _ _ _ _ _ h => h) ?_
  have hd6 := st6.drew
  clear st6
  refine plan_arr rfl rfl rfl rfl (cw 4 (elN m x + elN m y)) (fun wx hS => St.rangeL hS 3 rfl 0 _ (by rw [List.drop_zero, List.take_of_length_le (Nat.le_refl _)])) Try.underlying66 rfl (by first | (rw [cw_len]; kernel_rfl) | (simp only [List.length_append, cw_len]; kernel_rfl)) ?_
  try simp only [Act.put, List.setIfInBounds_toArray, List.set_cons_zero, List.set_cons_succ]
  refine plan_w (v := ?_) rfl rfl (fun wx => ?_) ?_
  rotate_left 1
  · (go_simp; with_reducible rfl)
  try simp only [Act.put, List.setIfInBounds_toArray, List.set_cons_zero, List.set_cons_succ]
  refine plan_w (v := ?_) rfl rfl (fun wx => ?_) ?_
  rotate_left 1
  · (go_simp; with_reducible rfl)
  try simp only [Act.put, List.setIfInBounds_toArray, List.set_cons_zero, List.set_cons_succ]
  refine plan_w (v := ?_) rfl rfl (fun wx => ?_) ?_
  rotate_left 1
  · (go_simp; with_reducible rfl)
  try simp only [Act.put, List.setIfInBounds_toArray, List.set_cons_zero, List.set_cons_succ]
  refine plan_arr rfl rfl rfl rfl (cw 4 m.M) (fun wx hS => (HPM.out.keep (St.fr hS) id).range 0 _ (md_M m)) Try.underlying66 rfl (by first | (rw [cw_len]; kernel_rfl) | (simp only [List.length_append, cw_len]; kernel_rfl)) ?_
  try simp only [Act.put, List.setIfInBounds_toArray, List.set_cons_zero, List.set_cons_succ]
  refine plan_b (C := fun g9 wz => St Nob w wz [(g4, cw 4 (elN m x), 81), (g5, cw 4 (elN m y), 81), (g6, cw 4 0, 81), (g7, cw 4 (elN m x + elN m y), 66), (g9, cw 4 ((elN m x + elN m y) + B64 ^ 4 - m.M), 66)]) (F := ?_) rfl rfl rfl rfl (fun key => ?_) (fun key => ?_) ?_
  rotate_left 1
  · skip
    go_simp
    refine (minus_any (elN m x + elN m y) m.M _ HOK.out.lt).mono ?_
    rintro e' w7 ⟨rfl, hf7⟩
    have st7 := hd6.keep hf7
    clear hf7
    refine ⟨st7, ?_⟩
    try simp only [Act.put, List.setIfInBounds_toArray, List.set_cons_zero, List.set_cons_succ]
    refine plan_w (v := ?_) rfl rfl (fun wx => ?_) ?_
    rotate_left 1
    · (go_simp; with_reducible rfl)
    try simp only [Act.put, List.setIfInBounds_toArray, List.set_cons_zero, List.set_cons_succ]
    refine plan_w (v := ?_) rfl rfl (fun wx => ?_) ?_
    rotate_left 1
    · (go_simp; with_reducible rfl)
    try simp only [Act.put, List.setIfInBounds_toArray, List.set_cons_zero, List.set_cons_succ]
    refine plan_w (v := ?_) rfl rfl (fun wx => ?_) ?_
    rotate_left 1
    · (go_simp; with_reducible rfl)
    try simp only [Act.put, List.setIfInBounds_toArray, List.set_cons_zero, List.set_cons_succ]
    refine plan_r rfl rfl ?_
    refine wp_allocS st7 rfl (z := .agg #[.int .u64 0, .int .u64 0, .int .u64 0, .int .u64 0]) (by kernel_rfl) (cw 4 0) (by rw [cw_zero]; rfl) ?_
    intro g9 w8 st8
    refine ⟨St.less st8 (by simp), ?_⟩
    try simp only [Act.put, List.setIfInBounds_toArray, List.set_cons_zero, List.set_cons_succ]
    refine plan_r rfl rfl ?_
    refine wp_storeS st8 4 rfl rfl rfl rfl (by first | (simp only [cw_len]; done) | (simp only [List.length_append, cw_len]; done)) (by first | (rw [cw_len]; kernel_rfl) | (simp only [List.length_append, cw_len]; kernel_rfl)) (cw_one _ _) ?_
    intro w9 st9
    refine ⟨St.less st9 (by simp), ?_⟩
    try simp only [Act.put]
    refine plan_m rfl rfl ?_
    go_simp
    try simp only [Act.put, List.setIfInBounds_toArray, List.set_cons_zero, List.set_cons_succ]
    refine plan_end ?_
    exact key g9 _ st9
  · skip
    refine wp_allocS hd6 rfl (z := .agg #[.int .u64 0, .int .u64 0, .int .u64 0, .int .u64 0]) (by kernel_rfl) (cw 4 0) (by rw [cw_zero]; rfl) ?_
    intro g9 w10 st10
    refine ⟨St.less st10 (by simp), ?_⟩
    try simp only [Act.put, List.setIfInBounds_toArray, List.set_cons_zero, List.set_cons_succ]
    refine plan_r rfl rfl ?_
    go_simp
    refine (minus_any (elN m x + elN m y) m.M _ HOK.out.lt).mono ?_
    rintro e' w11 ⟨rfl, hf11⟩
    have st11 := st10.keep hf11
    clear hf11
    refine ⟨St.less st11 (by simp), ?_⟩
    try simp only [Act.put, List.setIfInBounds_toArray, List.set_cons_zero, List.set_cons_succ]
    refine plan_w (v := ?_) rfl rfl (fun wx => ?_) ?_
    rotate_left 1
    · (go_simp; with_reducible rfl)
    try simp only [Act.put, List.setIfInBounds_toArray, List.set_cons_zero, List.set_cons_succ]
    refine plan_w (v := ?_) rfl rfl (fun wx => ?_) ?_
    rotate_left 1
    · (go_simp; with_reducible rfl)
    try simp only [Act.put, List.setIfInBounds_toArray, List.set_cons_zero, List.set_cons_succ]
    refine plan_w (v := ?_) rfl rfl (fun wx => ?_) ?_
    rotate_left 1
    · (go_simp; with_reducible rfl)
    try simp only [Act.put, List.setIfInBounds_toArray, List.set_cons_zero, List.set_cons_succ]
    refine plan_r rfl rfl ?_
    refine wp_storeS st11 4 rfl rfl rfl rfl (by first | (simp only [cw_len]; done) | (simp only [List.length_append, cw_len]; done)) (by first | (rw [cw_len]; kernel_rfl) | (simp only [List.length_append, cw_len]; kernel_rfl)) (cw_one _ _) ?_
    intro w12 st12
    refine ⟨St.less st12 (by simp), ?_⟩
    try simp only [Act.put]
    refine plan_m rfl rfl ?_
    go_simp
    try simp only [Act.put, List.setIfInBounds_toArray, List.set_cons_zero, List.set_cons_succ]
    refine plan_end ?_
    exact key g9 _ st12
  intro g9 w13 st13
  have st13 : St Nob w w13 [(g4, cw 4 (elN m x), 81), (g5, cw 4 (elN m y), 81), (g6, cw 4 0, 81), (g7, cw 4 (elN m x + elN m y), 66), (g9, cw 4 ((elN m x + elN m y) + B64 ^ 4 - m.M), 66)] := st13
  clear hd6
  refine NoPanic.normal ?_
  have hca := HCA.out
  have hfin := HFIN.out
  rw [hca]
  by_cases hlt2 : (elN m x + elN m y) < m.M
  · obtain ⟨f1, f2, f3⟩ := hfin.1 hlt2
    rw [f1, f2]
    have HF := Lib.hid f3
    clear hca hfin f1 f2 f3 hlt2
    go_wp2_with (with_reducible refine wl_stop (o := ⟨some 32, _, _, _, _, _⟩) ?_)
    refine wl_loadS st13 3 rfl rfl rfl Try.underlying66 rfl (by first | (rw [cw_len]; kernel_rfl) | (simp only [List.length_append, cw_len]; kernel_rfl)) ?_
    go_wp2_with (with_reducible refine wl_stop (o := ⟨none, _, _, _, _, _⟩) ?_)
    refine wl_storeS st13 2 rfl rfl rfl rfl rfl (by first | (simp only [cw_len]; done) | (simp only [List.length_append, cw_len]; done)) (by first | (rw [cw_len]; kernel_rfl) | (simp only [List.length_append, cw_len]; kernel_rfl)) (cw_one _ _) ?_
    intro w14 st14
    clear st13
    have hr := st14.at 2 rfl
    have hfr := st14.fr
    clear st14
    go_wp2_with fail
    exact bodyPost_ret (results_arr rfl rfl hr Try.underlying81 (by first | (rw [cw_len]; kernel_rfl) | (simp only [List.length_append, cw_len]; kernel_rfl))) rfl ⟨by rw [← el_add]; unfold i4; rw [HF.out], hfr⟩
  · obtain ⟨f3, f4⟩ := hfin.2 hlt2
    have HF := Lib.hid f3
    by_cases hlt3 : (elN m x + elN m y) < B64 ^ 4
    · obtain ⟨f1, f2⟩ := f4 hlt3
      rw [f1, f2]
      clear hca hfin f1 f2 f3 f4 hlt2 hlt3
      go_wp2_with (with_reducible refine wl_stop (o := ⟨some 33, _, _, _, _, _⟩) ?_)
      refine wl_loadS st13 4 rfl rfl rfl Try.underlying66 rfl (by first | (rw [cw_len]; kernel_rfl) | (simp only [List.length_append, cw_len]; kernel_rfl)) ?_
      go_wp2_with (with_reducible refine wl_stop (o := ⟨none, _, _, _, _, _⟩) ?_)
      refine wl_storeS st13 2 rfl rfl rfl rfl rfl (by first | (simp only [cw_len]; done) | (simp only [List.length_append, cw_len]; done)) (by first | (rw [cw_len]; kernel_rfl) | (simp only [List.length_append, cw_len]; kernel_rfl)) (cw_one _ _) ?_
      intro w14 st14
      clear st13
      have hr := st14.at 2 rfl
      have hfr := st14.fr
      clear st14
      go_wp2_with fail
      exact bodyPost_ret (results_arr rfl rfl hr Try.underlying81 (by first | (rw [cw_len]; kernel_rfl) | (simp only [List.length_append, cw_len]; kernel_rfl))) rfl ⟨by rw [← el_add]; unfold i4; rw [HF.out], hfr⟩
    · have f1 := lw4_one _ H2.out hlt3
      rw [f1]
      clear hca hfin f1 f3 f4 hlt2 hlt3
      go_wp2_with (with_reducible refine wl_stop (o := ⟨some 33, _, _, _, _, _⟩) ?_)
      refine wl_loadS st13 4 rfl rfl rfl Try.underlying66 rfl (by first | (rw [cw_len]; kernel_rfl) | (simp only [List.length_append, cw_len]; kernel_rfl)) ?_
      go_wp2_with (with_reducible refine wl_stop (o := ⟨none, _, _, _, _, _⟩) ?_)
      refine wl_storeS st13 2 rfl rfl rfl rfl rfl (by first | (simp only [cw_len]; done) | (simp only [List.length_append, cw_len]; done)) (by first | (rw [cw_len]; kernel_rfl) | (simp only [List.length_append, cw_len]; kernel_rfl)) (cw_one _ _) ?_
      intro w14 st14
      clear st13
      have hr := st14.at 2 rfl
      have hfr := st14.fr
      clear st14
      go_wp2_with fail
      exact bodyPost_ret (results_arr rfl rfl hr Try.underlying81 (by first | (rw [cw_len]; kernel_rfl) | (simp only [List.length_append, cw_len]; kernel_rfl))) rfl ⟨by rw [← el_add]; unfold i4; rw [HF.out], hfr⟩

set_option maxHeartbeats 8000000 in
set_option maxRecDepth 100000 in
theorem MSub_any (m : Md) (gp : Nat) (w : World) (hok : m.Ok) (hpm : Has w gp (mdL m) 68) (x y : Nat) :
    Calls Try.prog 51 #[.pointer (some ⟨gp, 0, none⟩), i4 (elN m x), i4 (elN m y)] w fun e w' => e = .returned (i4 (elN m (x + (m.M - y % m.M)))) ∧ Fr Nob w w' := by
  have HOK := Lib.hid hok
  have HPM := Lib.hid hpm
  clear hok hpm
  have hx := el_lt m HOK.out x
  have hy := el_lt m HOK.out y
  have HY4 := Lib.hid (Nat.lt_trans hy HOK.out.lt)
  have HCS := Lib.hid (cSub_all (elN m x) (elN m y) 4 (Nat.lt_trans hx HOK.out.lt) (Nat.lt_trans hy HOK.out.lt))
  have HSA := Lib.hid (sub_words_lt (elN m x) (elN m y) m.M hx hy HOK.out.lt)
  have HSB := Lib.hid (sub_words_ge (elN m x) (elN m y) m.M hx hy)
  clear hx hy
  have st0 := St.start Nob w
  go_enter Try.func51, Try.ntmps51
  go_wp2_with (with_reducible refine wl_stop (o := ⟨some 4, _, _, _, _, _⟩) ?_)
  refine wl_boxS st0 rfl rfl rfl (cw 4 (elN m x)) rfl ?_
  intro g4 w1 st1
  clear st0
  go_wp2_with (with_reducible refine wl_stop (o := ⟨some 5, _, _, _, _, _⟩) ?_)
  refine wl_boxS st1 rfl rfl rfl (cw 4 (elN m y)) rfl ?_
  intro g5 w2 st2
  clear st1
  go_wp2_with (with_reducible refine wl_stop (o := ⟨some 6, _, _, _, _, _⟩) ?_)
  refine wl_allocS st2 rfl rfl (z := .agg #[.int .u64 0, .int .u64 0, .int .u64 0, .int .u64 0]) (by kernel_rfl) (cw 4 0) (by rw [cw_zero]; rfl) ?_
  intro g6 w3 st3
  clear st2
  go_wp2_with (with_reducible refine wl_stop (o := ⟨some 10, _, _, _, _, _⟩) ?_)
  refine wl_loadS st3 0 rfl rfl rfl Try.underlying81 rfl (by first | (rw [cw_len]; kernel_rfl) | (simp only [List.length_append, cw_len]; kernel_rfl)) ?_
  go_wp2_with (with_reducible refine wl_stop (o := ⟨some 11, _, _, _, _, _⟩) ?_)
  refine wl_loadS st3 1 rfl rfl rfl Try.underlying81 rfl (by first | (rw [cw_len]; kernel_rfl) | (simp only [List.length_append, cw_len]; kernel_rfl)) ?_
  go_wp2_with fail
  refine (minus_any (elN m x) (elN m y) _ HY4.out).mono ?_
  rintro e' w4 ⟨rfl, hf4⟩
  have st4 := st3.keep hf4
  clear st3 hf4
  go_wp2_with (with_reducible refine wl_stop (o := ⟨some 7, _, _, _, _, _⟩) ?_)
  refine wl_allocS st4 rfl rfl (z := .agg #[.int .u64 0, .int .u64 0, .int .u64 0, .int .u64 0]) (by kernel_rfl) (cw 4 0) (by rw [cw_zero]; rfl) ?_
  intro g7 w5 st5
  clear st4
  go_wp2_with (with_reducible refine wl_stop (o := ⟨none, _, _, _, _, _⟩) ?_)
  refine wl_storeS st5 3 rfl rfl rfl rfl rfl (by first | (simp only [cw_len]; done) | (simp only [List.length_append, cw_len]; done)) (by first | (rw [cw_len]; kernel_rfl) | (simp only [List.length_append, cw_len]; kernel_rfl)) (cw_one _ _) ?_
  intro w6 st6
  clear st5
  have hcs := HCS.out
  by_cases hlt : elN m x < elN m y
  · rw [if_pos hlt] at hcs
    rw [hcs]
    have HV := Lib.hid (HSA.out hlt)
    clear hcs hlt
    go_wp2_with fail
    refine wp_region_noPanic ?_
    refine wp_region_plan (fun wx => St Nob w wx [(g4, cw 4 (elN m x), 81), (g5, cw 4 (elN m y), 81), (g6, cw 4 0, 81), (g7, cw 4 (elN m x + B64 ^ 4 - elN m y), 66)]) 9 (.t 0 (.w 1 (.w 2 (.w 3 (.t 4 (.r 5 (.w 6 (.w 7 (.w 8 (.m 9 .nil)))))))))) (by kernel_rfl) (by kernel_rfl) st6.drew (fun _ _ _ _ _ h => h) ?_
    have hd6 := st6.drew
    clear st6
    refine plan_arr rfl rfl rfl rfl (cw 4 (elN m x + B64 ^ 4 - elN m y)) (fun wx hS => St.rangeL hS 3 rfl 0 _ (by rw [List.drop_zero, List.take_of_length_le (Nat.le_refl _)])) Try.underlying66 rfl (by first | (rw [cw_len]; kernel_rfl) | (simp only [List.length_append, cw_len]; kernel_rfl)) ?_
    try simp only [Act.put, List.setIfInBounds_toArray, List.set_cons_zero, List.set_cons_succ]
    refine plan_w (v := ?_) rfl rfl (fun wx => ?_) ?_
    rotate_left 1
    · (go_simp; with_reducible rfl)
    try simp only [Act.put, List.setIfInBounds_toArray, List.set_cons_zero, List.set_cons_succ]
    refine plan_w (v := ?_) rfl rfl (fun wx => ?_) ?_
    rotate_left 1
    · (go_simp; with_reducible rfl)
    try simp only [Act.put, List.setIfInBounds_toArray, List.set_cons_zero, List.set_cons_succ]
    refine plan_w (v := ?_) rfl rfl (fun wx => ?_) ?_
    rotate_left 1
    · (go_simp; with_reducible rfl)
    try simp only [Act.put, List.setIfInBounds_toArray, List.set_cons_zero, List.set_cons_succ]
    refine plan_arr rfl rfl rfl rfl (cw 4 m.M) (fun wx hS => (HPM.out.keep (St.fr hS) id).range 0 _ (md_M m)) Try.underlying66 rfl (by first | (rw [cw_len]; kernel_rfl) | (simp only [List.length_append, cw_len]; kernel_rfl)) ?_
    try simp only [Act.put, List.setIfInBounds_toArray, List.set_cons_zero, List.set_cons_succ]
    refine plan_r rfl rfl ?_
    go_simp
    refine (plus_any (elN m x + B64 ^ 4 - elN m y) m.M _).mono ?_
    rintro e' w7 ⟨rfl, hf7⟩
    have st7 := hd6.keep hf7
    clear hf7
    clear hd6
    refine ⟨st7, ?_⟩
    try simp only [Act.put, List.setIfInBounds_toArray, List.set_cons_zero, List.set_cons_succ]
    refine plan_w (v := ?_) rfl rfl (fun wx => ?_) ?_
    rotate_left 1
    · (go_simp; with_reducible rfl)
    try simp only [Act.put, List.setIfInBounds_toArray, List.set_cons_zero, List.set_cons_succ]
    refine plan_w (v := ?_) rfl rfl (fun wx => ?_) ?_
    rotate_left 1
    · (go_simp; with_reducible rfl)
    try simp only [Act.put, List.setIfInBounds_toArray, List.set_cons_zero, List.set_cons_succ]
    refine plan_w (v := ?_) rfl rfl (fun wx => ?_) ?_
    rotate_left 1
    · (go_simp; with_reducible rfl)
    try simp only [Act.put, List.setIfInBounds_toArray, List.set_cons_zero, List.set_cons_succ]
    refine plan_m rfl rfl ?_
    refine wp_storeS st7 3 rfl rfl rfl rfl (by first | (simp only [cw_len]; done) | (simp only [List.length_append, cw_len]; done)) (by first | (rw [cw_len]; kernel_rfl) | (simp only [List.length_append, cw_len]; kernel_rfl)) (cw_one _ _) ?_
    intro w8 st8
    clear st7
    try simp only [Act.put]
    refine plan_end ?_
    refine NoPanic.normal ?_
    go_wp2_with (with_reducible refine wl_stop (o := ⟨some 26, _, _, _, _, _⟩) ?_)
    refine wl_loadS st8 3 rfl rfl rfl Try.underlying66 rfl (by first | (rw [cw_len]; kernel_rfl) | (simp only [List.length_append, cw_len]; kernel_rfl)) ?_
    go_wp2_with (with_reducible refine wl_stop (o := ⟨none, _, _, _, _, _⟩) ?_)
    refine wl_storeS st8 2 rfl rfl rfl rfl rfl (by first | (simp only [cw_len]; done) | (simp only [List.length_append, cw_len]; done)) (by first | (rw [cw_len]; kernel_rfl) | (simp only [List.length_append, cw_len]; kernel_rfl)) (cw_one _ _) ?_
    intro w9 st9
    clear st8
    have hr := st9.at 2 rfl
    have hfr := st9.fr
    clear st9
    go_wp2_with fail
    exact bodyPost_ret (results_arr rfl rfl hr Try.underlying81 (by first | (rw [cw_len]; kernel_rfl) | (simp only [List.length_append, cw_len]; kernel_rfl))) rfl ⟨by rw [← el_sub m HOK.out]; unfold i4; rw [← HV.out], hfr⟩
  · rw [if_neg hlt] at hcs
    rw [hcs]
    have HV := Lib.hid (HSB.out hlt)
    clear hcs hlt
    go_wp2_with (with_reducible refine wl_stop (o := ⟨some 26, _, _, _, _, _⟩) ?_)
    refine wl_loadS st6 3 rfl rfl rfl Try.underlying66 rfl (by first | (rw [cw_len]; kernel_rfl) | (simp only [List.length_append, cw_len]; kernel_rfl)) ?_
    go_wp2_with (with_reducible refine wl_stop (o := ⟨none, _, _, _, _, _⟩) ?_)
    refine wl_storeS st6 2 rfl rfl rfl rfl rfl (by first | (simp only [cw_len]; done) | (simp only [List.length_append, cw_len]; done)) (by first | (rw [cw_len]; kernel_rfl) | (simp only [List.length_append, cw_len]; kernel_rfl)) (cw_one _ _) ?_
    intro w7 st7
    clear st6
    have hr := st7.at 2 rfl
    have hfr := st7.fr
    clear st7
    go_wp2_with fail
    exact bodyPost_ret (results_arr rfl rfl hr Try.underlying81 (by first | (rw [cw_len]; kernel_rfl) | (simp only [List.length_append, cw_len]; kernel_rfl))) rfl ⟨by rw [← el_sub m HOK.out]; unfold i4; rw [← HV.out], hfr⟩

set_option maxHeartbeats 8000000 in
set_option maxRecDepth 100000 in
theorem MNeg_any (m : Md) (gp : Nat) (w : World) (hok : m.Ok) (hpm : Has w gp (mdL m) 68) (x : Nat) :
    Calls Try.prog 78 #[.pointer (some ⟨gp, 0, none⟩), i4 (elN m x)] w fun e w' => e = .returned (i4 (elN m (m.M - x % m.M))) ∧ Fr Nob w w' := by
  have HOK := Lib.hid hok
  have HPM := Lib.hid hpm
  clear hok hpm
  have hsub := fun wx (h : Has wx gp (mdL m) 68) => MSub_any m gp wx HOK.out h 0 x
  rw [el_zero m, ← small_words 0 (by decide)] at hsub
  have HSUB := Lib.hid hsub
  clear hsub
  have st0 := St.start Nob w
  go_enter Try.func78, Try.ntmps78
  go_wp2_with (with_reducible refine wl_stop (o := ⟨some 3, _, _, _, _, _⟩) ?_)
  refine wl_boxS st0 rfl rfl rfl (cw 4 (elN m x)) rfl ?_
  intro g3 w1 st1
  clear st0
  go_wp2_with (with_reducible refine wl_stop (o := ⟨some 4, _, _, _, _, _⟩) ?_)
  refine wl_allocS st1 rfl rfl (z := .agg #[.int .u64 0, .int .u64 0, .int .u64 0, .int .u64 0]) (by kernel_rfl) (cw 4 0) (by rw [cw_zero]; rfl) ?_
  intro g4 w2 st2
  clear st1
  go_wp2_with (with_reducible refine wl_stop (o := ⟨some 7, _, _, _, _, _⟩) ?_)
  refine wl_loadS st2 0 rfl rfl rfl Try.underlying81 rfl (by first | (rw [cw_len]; kernel_rfl) | (simp only [List.length_append, cw_len]; kernel_rfl)) ?_
  go_wp2_with fail
  refine (HSUB.out _ (HPM.out.keep st2.fr id)).mono ?_
  rintro e' w3 ⟨rfl, hf3⟩
  have st3 := st2.keep hf3
  clear st2 hf3
  go_wp2_with (with_reducible refine wl_stop (o := ⟨none, _, _, _, _, _⟩) ?_)
  refine wl_storeS st3 1 rfl rfl rfl rfl rfl (by first | (simp only [cw_len]; done) | (simp only [List.length_append, cw_len]; done)) (by first | (rw [cw_len]; kernel_rfl) | (simp only [List.length_append, cw_len]; kernel_rfl)) (cw_one _ _) ?_
  intro w4 st4
  clear st3
  have hr := st4.at 1 rfl
  have hfr := st4.fr
  clear st4
  go_wp2_with fail
  exact bodyPost_ret (results_arr rfl rfl hr Try.underlying81 (by first | (rw [cw_len]; kernel_rfl) | (simp only [List.length_append, cw_len]; kernel_rfl))) rfl ⟨rfl, hfr⟩

theorem MMulE (m : Md) (gp : Nat) (w : World) (hok : m.Ok) (hpm : Has w gp (mdL m) 68) (x y : Nat) :
    Calls Try.prog 45 #[.pointer (some ⟨gp, 0, none⟩), i4 (elN m x), i4 (elN m y)] w fun e w' => e = .returned (i4 (elN m (x * y))) ∧ Fr Nob w w' := by
  have h := MMul_any m gp (elN m x) (elN m y) w hok hpm (el_lt4 m hok x) (el_lt m hok y)
  rwa [el_mul m hok] at h

set_option maxHeartbeats 8000000 in
set_option maxRecDepth 100000 in
theorem MSquare_any (m : Md) (gp : Nat) (w : World) (hok : m.Ok) (hpm : Has w gp (mdL m) 68) (x : Nat) :
    Calls Try.prog 77 #[.pointer (some ⟨gp, 0, none⟩), i4 (elN m x)] w fun e w' => e = .returned (i4 (elN m (x * x))) ∧ Fr Nob w w' := by
  have HOK := Lib.hid hok
  have HPM := Lib.hid hpm
  clear hok hpm
  have st0 := St.start Nob w
  go_enter Try.func77, Try.ntmps77
  go_wp2_with (with_reducible refine wl_stop (o := ⟨some 3, _, _, _, _, _⟩) ?_)
  refine wl_boxS st0 rfl rfl rfl (cw 4 (elN m x)) rfl ?_
  intro g3 w1 st1
  clear st0
  go_wp2_with (with_reducible refine wl_stop (o := ⟨some 4, _, _, _, _, _⟩) ?_)
  refine wl_allocS st1 rfl rfl (z := .agg #[.int .u64 0, .int .u64 0, .int .u64 0, .int .u64 0]) (by kernel_rfl) (cw 4 0) (by rw [cw_zero]; rfl) ?_
  intro g4 w2 st2
  clear st1
  go_wp2_with (with_reducible refine wl_stop (o := ⟨some 6, _, _, _, _, _⟩) ?_)
  refine wl_loadS st2 0 rfl rfl rfl Try.underlying81 rfl (by first | (rw [cw_len]; kernel_rfl) | (simp only [List.length_append, cw_len]; kernel_rfl)) ?_
  go_wp2_with (with_reducible refine wl_stop (o := ⟨some 7, _, _, _, _, _⟩) ?_)
  refine wl_loadS st2 0 rfl rfl rfl Try.underlying81 rfl (by first | (rw [cw_len]; kernel_rfl) | (simp only [List.length_append, cw_len]; kernel_rfl)) ?_
  go_wp2_with fail
  refine (MMulE m gp _ HOK.out (HPM.out.keep st2.fr id) x x).mono ?_
  rintro e' w3 ⟨rfl, hf3⟩
  have st3 := st2.keep hf3
  clear st2 hf3
  go_wp2_with (with_reducible refine wl_stop (o := ⟨none, _, _, _, _, _⟩) ?_)
  refine wl_storeS st3 1 rfl rfl rfl rfl rfl (by first | (simp only [cw_len]; done) | (simp only [List.length_append, cw_len]; done)) (by first | (rw [cw_len]; kernel_rfl) | (simp only [List.length_append, cw_len]; kernel_rfl)) (cw_one _ _) ?_
  intro w4 st4
  clear st3
  have hr := st4.at 1 rfl
  have hfr := st4.fr
  clear st4
  go_wp2_with fail
  exact bodyPost_ret (results_arr rfl rfl hr Try.underlying81 (by first | (rw [cw_len]; kernel_rfl) | (simp only [List.length_append, cw_len]; kernel_rfl))) rfl ⟨rfl, hfr⟩
end Go.Proofs.Ytmegaegedlbckaa

/- mont: Pow, Inv, fold, Reduce. -/
namespace Go.Proofs.Ytmegaegedlbckaa
open Go.RowKit Go.Mv Mvp
attribute [local irreducible] limbs lw mix cw cSub cAdd cMul foldC valFrom beN laid be32 powm montT mstep elN

theorem elpow0 (m : Md) (x n i : Nat) (h : n / 2 ^ i % 2 = 0) : elN m (x ^ (n / 2 ^ (i + 1)) * x ^ (n / 2 ^ (i + 1))) = elN m (x ^ (n / 2 ^ i)) := by
  have := powm_half n i
  rw [h, Nat.two_mul, Nat.add_zero] at this
  rw [← Nat.pow_add, this]
theorem elpow1 (m : Md) (x n i : Nat) (h : n / 2 ^ i % 2 = 1) : elN m (x ^ (n / 2 ^ (i + 1)) * x ^ (n / 2 ^ (i + 1)) * x) = elN m (x ^ (n / 2 ^ i)) := by
  have := powm_half n i
  rw [h, Nat.two_mul] at this
  rw [← Nat.pow_add, ← Nat.pow_succ, this]
theorem elpow_top (m : Md) (x n : Nat) (h : n < B64 ^ 4) : elN m (x ^ (n / 2 ^ 256)) = elN m 1 := by
  rw [Nat.div_eq_of_lt (Nat.lt_of_lt_of_le h (by decide)), Nat.pow_zero]
theorem elpow_all (m : Md) (x n : Nat) : elN m (x ^ (n / 2 ^ 0)) = elN m (x ^ n) := by rw [Nat.pow_zero, Nat.div_one]
theorem eladd0 (m : Md) (n i : Nat) (h : n / 2 ^ i % 2 = 0) : elN m (n / 2 ^ (i + 1) + n / 2 ^ (i + 1)) = elN m (n / 2 ^ i) := by
  have := powm_half n i
  rw [h, Nat.two_mul, Nat.add_zero] at this
  rw [this]
theorem eladd1 (m : Md) (n i : Nat) (h : n / 2 ^ i % 2 = 1) : elN m (n / 2 ^ (i + 1) + n / 2 ^ (i + 1) + 1) = elN m (n / 2 ^ i) := by
  have := powm_half n i
  rw [h, Nat.two_mul] at this
  rw [this]

set_option maxHeartbeats 8000000 in
set_option maxRecDepth 100000 in
theorem MPow_any (m : Md) (gp : Nat) (w : World) (hok : m.Ok) (hpm : Has w gp (mdL m) 68) (x n : Nat) (hn : n < B64 ^ 4) :
    Calls Try.prog 74 #[.pointer (some ⟨gp, 0, none⟩), i4 (elN m x), i4 n] w fun e w' => e = .returned (i4 (elN m (x ^ n))) ∧ Fr Nob w w' := by
  have HOK := Lib.hid hok
  have HPM := Lib.hid hpm
  clear hok hpm
  have HN := Lib.hid hn
  have HTOP := Lib.hid (elpow_top m x n hn)
  clear hn
  have st0 := St.start Nob w
  go_enter Try.func74, Try.ntmps74
  go_wp2_with (with_reducible refine wl_stop (o := ⟨some 4, _, _, _, _, _⟩) ?_)
  refine wl_boxS st0 rfl rfl rfl (cw 4 (elN m x)) rfl ?_
  intro g4 w1 st1
  clear st0
  go_wp2_with (with_reducible refine wl_stop (o := ⟨some 5, _, _, _, _, _⟩) ?_)
  refine wl_boxS st1 rfl rfl rfl (cw 4 n) rfl ?_
  intro g5 w2 st2
  clear st1
  go_wp2_with (with_reducible refine wl_stop (o := ⟨some 6, _, _, _, _, _⟩) ?_)
  refine wl_allocS st2 rfl rfl (z := .agg #[.int .u64 0, .int .u64 0, .int .u64 0, .int .u64 0]) (by kernel_rfl) (cw 4 0) (by rw [cw_zero]; rfl) ?_
  intro g6 w3 st3
  clear st2
  go_wp2_with fail
  refine (MOne_any m gp _ HOK.out (HPM.out.keep st3.fr id)).mono ?_
  rintro e' w4 ⟨rfl, hf4⟩
  have st4 := st3.keep hf4
  clear st3 hf4
  go_wp2_with (with_reducible refine wl_stop (o := ⟨some 7, _, _, _, _, _⟩) ?_)
  refine wl_allocS st4 rfl rfl (z := .agg #[.int .u64 0, .int .u64 0, .int .u64 0, .int .u64 0]) (by kernel_rfl) (cw 4 0) (by rw [cw_zero]; rfl) ?_
  intro g7 w5 st5
  clear st4
  go_wp2_with (with_reducible refine wl_stop (o := ⟨none, _, _, _, _, _⟩) ?_)
  refine wl_storeS st5 3 rfl rfl rfl rfl rfl (by first | (simp only [cw_len]; done) | (simp only [List.length_append, cw_len]; done)) (by first | (rw [cw_len]; kernel_rfl) | (simp only [List.length_append, cw_len]; kernel_rfl)) (cw_one _ _) ?_
  intro w6 st6
  clear st5
  go_wp2
  go_loopw [8] (fun i wr => ∃ j : Nat, j ≤ 256 ∧ i = .int .i64 ((j : Int) - 1) ∧ St Nob w wr [(g4, cw 4 (elN m x), 81), (g5, cw 4 n, 66), (g6, cw 4 0, 81), (g7, cw 4 (elN m (x ^ (n / 2 ^ j))), 81)]) (fun i _ => (intOf i + 1).toNat)
  case atStart => exact ⟨256, by omega, rfl, by rw [HTOP.out]; exact st6⟩
  case round =>
    obtain ⟨j, hj, rfl, st⟩ := hrel
    clear st6
    cases j with
    | succ i =>
      rw [show (((i + 1 : Nat) : Int)) - 1 = (i : Int) by omega]
      have hge : (0 : Int) ≤ (i : Int) := by omega
      go_wp2_with (with_reducible refine wl_stop (o := ⟨some 16, _, _, _, _, _⟩) ?_)
      refine wl_loadS st 3 rfl rfl rfl Try.underlying81 rfl (by first | (rw [cw_len]; kernel_rfl) | (simp only [List.length_append, cw_len]; kernel_rfl)) ?_
      go_wp2_with fail
      refine (MSquare_any m gp _ HOK.out (HPM.out.keep st.fr id) (x ^ (n / 2 ^ (i + 1)))).mono ?_
      rintro e' w7 ⟨rfl, hf7⟩
      have st7 := st.keep hf7
      clear st hf7
      go_wp2_with (with_reducible refine wl_stop (o := ⟨none, _, _, _, _, _⟩) ?_)
      refine wl_storeS st7 3 rfl rfl rfl rfl rfl (by first | (simp only [cw_len]; done) | (simp only [List.length_append, cw_len]; done)) (by first | (rw [cw_len]; kernel_rfl) | (simp only [List.length_append, cw_len]; kernel_rfl)) (cw_one _ _) ?_
      intro w8 st8
      clear st7
      go_wp2_with (with_reducible refine wl_stop (o := ⟨some 18, _, _, _, _, _⟩) ?_)
      refine wl_loadS st8 1 rfl rfl rfl Try.underlying66 rfl (by first | (rw [cw_len]; kernel_rfl) | (simp only [List.length_append, cw_len]; kernel_rfl)) ?_
      go_wp2_with fail
      refine (MBit_any n i _ (by omega)).mono ?_
      rintro e' w9 ⟨rfl, hf9⟩
      have st9 := st8.keep hf9
      clear st8 hf9
      have hbt : n / 2 ^ i % 2 = 0 ∨ n / 2 ^ i % 2 = 1 := by omega
      have HS0 := Lib.hid (elpow0 m x n i)
      have HS1 := Lib.hid (elpow1 m x n i)
      generalize hbb : n / 2 ^ i % 2 = bt at *
      have HBB := Lib.hid hbb
      clear hbb
      rcases hbt with rfl | rfl
      · have hst := st9
        rw [HS0.out (by first | rfl | trivial)] at hst
        clear st9
        go_wp2
        go_roundw
        case rel => exact ⟨i, by omega, rfl, hst⟩
        case measure => simp [intOf]
      · skip
        go_wp2_with (with_reducible refine wl_stop (o := ⟨some 23, _, _, _, _, _⟩) ?_)
        refine wl_loadS st9 3 rfl rfl rfl Try.underlying81 rfl (by first | (rw [cw_len]; kernel_rfl) | (simp only [List.length_append, cw_len]; kernel_rfl)) ?_
        go_wp2_with (with_reducible refine wl_stop (o := ⟨some 24, _, _, _, _, _⟩) ?_)
        refine wl_loadS st9 0 rfl rfl rfl Try.underlying81 rfl (by first | (rw [cw_len]; kernel_rfl) | (simp only [List.length_append, cw_len]; kernel_rfl)) ?_
        go_wp2_with fail
        refine (MMulE m gp _ HOK.out (HPM.out.keep st9.fr id) ((x ^ (n / 2 ^ (i + 1))) * (x ^ (n / 2 ^ (i + 1)))) x).mono ?_
        rintro e' w10 ⟨rfl, hf10⟩
        have st10 := st9.keep hf10
        clear st9 hf10
        go_wp2_with (with_reducible refine wl_stop (o := ⟨none, _, _, _, _, _⟩) ?_)
        refine wl_storeS st10 3 rfl rfl rfl rfl rfl (by first | (simp only [cw_len]; done) | (simp only [List.length_append, cw_len]; done)) (by first | (rw [cw_len]; kernel_rfl) | (simp only [List.length_append, cw_len]; kernel_rfl)) (cw_one _ _) ?_
        intro w11 st11
        clear st10
        have hst := st11
        rw [HS1.out (by first | rfl | trivial)] at hst
        clear st11
        go_wp2
        go_roundw
        case rel => exact ⟨i, by omega, rfl, hst⟩
        case measure => simp [intOf]
    | zero =>
      rw [show (((0 : Nat) : Int)) - 1 = -1 by omega]
      go_wp2_with (with_reducible refine wl_stop (o := ⟨some 26, _, _, _, _, _⟩) ?_)
      refine wl_loadS st 3 rfl rfl rfl Try.underlying81 rfl (by first | (rw [cw_len]; kernel_rfl) | (simp only [List.length_append, cw_len]; kernel_rfl)) ?_
      go_wp2_with (with_reducible refine wl_stop (o := ⟨none, _, _, _, _, _⟩) ?_)
      refine wl_storeS st 2 rfl rfl rfl rfl rfl (by first | (simp only [cw_len]; done) | (simp only [List.length_append, cw_len]; done)) (by first | (rw [cw_len]; kernel_rfl) | (simp only [List.length_append, cw_len]; kernel_rfl)) (cw_one _ _) ?_
      intro w7 st7
      clear st
      have hr := st7.at 2 rfl
      have hfr := st7.fr
      clear st7
      go_wp2_with fail
      exact bodyPost_ret (results_arr rfl rfl hr Try.underlying81 (by first | (rw [cw_len]; kernel_rfl) | (simp only [List.length_append, cw_len]; kernel_rfl))) rfl ⟨by rw [← elpow_all]; rfl, hfr⟩

set_option maxHeartbeats 8000000 in
set_option maxRecDepth 100000 in
theorem MInv_any (m : Md) (gp : Nat) (w : World) (hok : m.Ok) (hpm : Has w gp (mdL m) 68) (x : Nat) :
    Calls Try.prog 53 #[.pointer (some ⟨gp, 0, none⟩), i4 (elN m x)] w fun e w' => e = .returned (i4 (elN m (x ^ (m.M - 2)))) ∧ Fr Nob w w' := by
  have HOK := Lib.hid hok
  have HPM := Lib.hid hpm
  clear hok hpm
  have HM2 := Lib.hid (show m.M - 2 < B64 ^ 4 by have := HOK.out.lt; omega)
  have h2m := fun wx => minus_any m.M 2 wx (by decide)
  rw [neg_words m.M 2 (by have := HOK.out.one; omega), ← small_words 2 (by decide)] at h2m
  have H2M := Lib.hid h2m
  clear h2m
  have st0 := St.start Nob w
  go_enter Try.func53, Try.ntmps53
  go_wp2_with (with_reducible refine wl_stop (o := ⟨some 3, _, _, _, _, _⟩) ?_)
  refine wl_boxS st0 rfl rfl rfl (cw 4 (elN m x)) rfl ?_
  intro g3 w1 st1
  clear st0
  go_wp2_with (with_reducible refine wl_stop (o := ⟨some 4, _, _, _, _, _⟩) ?_)
  refine wl_allocS st1 rfl rfl (z := .agg #[.int .u64 0, .int .u64 0, .int .u64 0, .int .u64 0]) (by kernel_rfl) (cw 4 0) (by rw [cw_zero]; rfl) ?_
  intro g4 w2 st2
  clear st1
  go_wp2_with (with_reducible refine wl_stop (o := ⟨some 11, _, _, _, _, _⟩) ?_)
  refine wl_loadA rfl rfl Try.underlying66 rfl (HPM.out.keep st2.fr id) (cw 4 m.M) (md_M m) (by first | (rw [cw_len]; kernel_rfl) | (simp only [List.length_append, cw_len]; kernel_rfl)) ?_
  go_wp2_with fail
  refine (H2M.out _).mono ?_
  rintro e' w3 ⟨rfl, hf3⟩
  have st3 := st2.keep hf3
  clear st2 hf3
  go_wp2_with (with_reducible refine wl_stop (o := ⟨some 5, _, _, _, _, _⟩) ?_)
  refine wl_allocS st3 rfl rfl (z := .agg #[.int .u64 0, .int .u64 0, .int .u64 0, .int .u64 0]) (by kernel_rfl) (cw 4 0) (by rw [cw_zero]; rfl) ?_
  intro g5 w4 st4
  clear st3
  go_wp2_with (with_reducible refine wl_stop (o := ⟨none, _, _, _, _, _⟩) ?_)
  refine wl_storeS st4 2 rfl rfl rfl rfl rfl (by first | (simp only [cw_len]; done) | (simp only [List.length_append, cw_len]; done)) (by first | (rw [cw_len]; kernel_rfl) | (simp only [List.length_append, cw_len]; kernel_rfl)) (cw_one _ _) ?_
  intro w5 st5
  clear st4
  go_wp2_with (with_reducible refine wl_stop (o := ⟨some 17, _, _, _, _, _⟩) ?_)
  refine wl_loadS st5 0 rfl rfl rfl Try.underlying81 rfl (by first | (rw [cw_len]; kernel_rfl) | (simp only [List.length_append, cw_len]; kernel_rfl)) ?_
  go_wp2_with (with_reducible refine wl_stop (o := ⟨some 18, _, _, _, _, _⟩) ?_)
  refine wl_loadS st5 2 rfl rfl rfl Try.underlying66 rfl (by first | (rw [cw_len]; kernel_rfl) | (simp only [List.length_append, cw_len]; kernel_rfl)) ?_
  go_wp2_with fail
  refine (MPow_any m gp _ HOK.out (HPM.out.keep st5.fr id) x (m.M - 2) HM2.out).mono ?_
  rintro e' w6 ⟨rfl, hf6⟩
  have st6 := st5.keep hf6
  clear st5 hf6
  go_wp2_with (with_reducible refine wl_stop (o := ⟨none, _, _, _, _, _⟩) ?_)
  refine wl_storeS st6 1 rfl rfl rfl rfl rfl (by first | (simp only [cw_len]; done) | (simp only [List.length_append, cw_len]; done)) (by first | (rw [cw_len]; kernel_rfl) | (simp only [List.length_append, cw_len]; kernel_rfl)) (cw_one _ _) ?_
  intro w7 st7
  clear st6
  have hr := st7.at 1 rfl
  have hfr := st7.fr
  clear st7
  go_wp2_with fail
  exact bodyPost_ret (results_arr rfl rfl hr Try.underlying81 (by first | (rw [cw_len]; kernel_rfl) | (simp only [List.length_append, cw_len]; kernel_rfl))) rfl ⟨rfl, hfr⟩

set_option maxHeartbeats 8000000 in
set_option maxRecDepth 100000 in
theorem Mfold_any (m : Md) (gp : Nat) (w : World) (hok : m.Ok) (hpm : Has w gp (mdL m) 68) (a : Option Addr) (n c : Nat) (l : List UInt8) (hb : RdB w a n l) (hn : n ≤ 32) :
    Calls Try.prog 62 #[.pointer (some ⟨gp, 0, none⟩), .slice a n c] w fun e w' => e = .returned (i4 (elN m (beN l))) ∧ Fr Nob w w' := by
  have HOK := Lib.hid hok
  have HPM := Lib.hid hpm
  clear hok hpm
  have HN := Lib.hid hn
  have HBB := Lib.hid hb
  have hbl := beN_le32 l (by rw [hb.len]; exact hn)
  have HBL := Lib.hid hbl
  have HTOP := Lib.hid (show elN m (beN l / 2 ^ 256) = 0 by rw [Nat.div_eq_of_lt (Nat.lt_of_lt_of_le hbl (by decide)), el_zero])
  have HALL := Lib.hid (show elN m (beN l / 2 ^ 0) = elN m (beN l) by rw [Nat.pow_zero, Nat.div_one])
  clear hb hbl
  clear hn
  have st0 := St.start Nob w
  go_enter Try.func62, Try.ntmps62
  go_wp2_with (with_reducible refine wl_stop (o := ⟨some 4, _, _, _, _, _⟩) ?_)
  refine wl_allocS st0 rfl rfl (z := .agg #[.int .u64 0, .int .u64 0, .int .u64 0, .int .u64 0]) (by kernel_rfl) (cw 4 0) (by rw [cw_zero]; rfl) ?_
  intro g4 w1 st1
  clear st0
  go_wp2_with fail
  refine (FromBytes_any a n c l _ (HBB.out.still st1.fr) HN.out).mono ?_
  rintro e' w2 ⟨rfl, hf2⟩
  have st2 := st1.keep hf2
  clear st1 hf2
  go_wp2_with (with_reducible refine wl_stop (o := ⟨some 5, _, _, _, _, _⟩) ?_)
  refine wl_allocS st2 rfl rfl (z := .agg #[.int .u64 0, .int .u64 0, .int .u64 0, .int .u64 0]) (by kernel_rfl) (cw 4 0) (by rw [cw_zero]; rfl) ?_
  intro g5 w3 st3
  clear st2
  go_wp2_with (with_reducible refine wl_stop (o := ⟨none, _, _, _, _, _⟩) ?_)
  refine wl_storeS st3 1 rfl rfl rfl rfl rfl (by first | (simp only [cw_len]; done) | (simp only [List.length_append, cw_len]; done)) (by first | (rw [cw_len]; kernel_rfl) | (simp only [List.length_append, cw_len]; kernel_rfl)) (cw_one _ _) ?_
  intro w4 st4
  clear st3
  go_wp2_with fail
  refine wp_region_noPanic ?_
  refine wp_region_plan (fun wx => St Nob w wx [(g4, cw 4 0, 81), (g5, cw 4 (beN l), 66)]) 5 (.t 0 (.w 1 (.w 2 (.w 3 (.t 4 (.m 5 .nil)))))) (by kernel_rfl) (by kernel_rfl) st4.drew (fun _ _ _ _ _ h => h) ?_
  have hd4 := st4.drew
  clear st4
  refine plan_arr rfl rfl rfl rfl (cw 4 (beN l)) (fun wx hS => St.rangeL hS 1 rfl 0 _ (by rw [List.drop_zero, List.take_of_length_le (Nat.le_refl _)])) Try.underlying66 rfl (by first | (rw [cw_len]; kernel_rfl) | (simp only [List.length_append, cw_len]; kernel_rfl)) ?_
  try simp only [Act.put, List.setIfInBounds_toArray, List.set_cons_zero, List.set_cons_succ]
  refine plan_w (v := ?_) rfl rfl (fun wx => ?_) ?_
  rotate_left 1
  · (go_simp; with_reducible rfl)
  try simp only [Act.put, List.setIfInBounds_toArray, List.set_cons_zero, List.set_cons_succ]
  refine plan_w (v := ?_) rfl rfl (fun wx => ?_) ?_
  rotate_left 1
  · (go_simp; with_reducible rfl)
  try simp only [Act.put, List.setIfInBounds_toArray, List.set_cons_zero, List.set_cons_succ]
  refine plan_w (v := ?_) rfl rfl (fun wx => ?_) ?_
  rotate_left 1
  · (go_simp; with_reducible rfl)
  try simp only [Act.put, List.setIfInBounds_toArray, List.set_cons_zero, List.set_cons_succ]
  refine plan_arr rfl rfl rfl rfl (cw 4 m.M) (fun wx hS => (HPM.out.keep (St.fr hS) id).range 0 _ (md_M m)) Try.underlying66 rfl (by first | (rw [cw_len]; kernel_rfl) | (simp only [List.length_append, cw_len]; kernel_rfl)) ?_
  try simp only [Act.put, List.setIfInBounds_toArray, List.set_cons_zero, List.set_cons_succ]
  refine plan_m rfl rfl ?_
  go_simp
  refine (MLess_any (beN l) m.M _ HBL.out HOK.out.lt).mono ?_
  rintro e' w5 ⟨rfl, hf5⟩
  have st5 := hd4.keep hf5
  clear hf5
  clear hd4
  try simp only [Act.put, List.setIfInBounds_toArray, List.set_cons_zero, List.set_cons_succ]
  refine plan_end ?_
  refine NoPanic.normal ?_
  by_cases hlt : beN l < m.M
  · have hd := decide_eq_true hlt
    have HLT := Lib.hid hlt
    rw [hd]
    clear hd hlt
    go_wp2_with (with_reducible refine wl_stop (o := ⟨some 18, _, _, _, _, _⟩) ?_)
    refine wl_loadS st5 1 rfl rfl rfl Try.underlying66 rfl (by first | (rw [cw_len]; kernel_rfl) | (simp only [List.length_append, cw_len]; kernel_rfl)) ?_
    go_wp2_with fail
    refine (MTo_any m gp _ HOK.out (HPM.out.keep st5.fr id) (beN l) HBL.out).mono ?_
    rintro e' w6 ⟨rfl, hf6⟩
    have st6 := st5.keep hf6
    clear st5 hf6
    go_wp2_with (with_reducible refine wl_stop (o := ⟨none, _, _, _, _, _⟩) ?_)
    refine wl_storeS st6 0 rfl rfl rfl rfl rfl (by first | (simp only [cw_len]; done) | (simp only [List.length_append, cw_len]; done)) (by first | (rw [cw_len]; kernel_rfl) | (simp only [List.length_append, cw_len]; kernel_rfl)) (cw_one _ _) ?_
    intro w7 st7
    clear st6
    have hr := st7.at 0 rfl
    have hfr := st7.fr
    clear st7
    go_wp2_with fail
    exact bodyPost_ret (results_arr rfl rfl hr Try.underlying81 (by first | (rw [cw_len]; kernel_rfl) | (simp only [List.length_append, cw_len]; kernel_rfl))) rfl ⟨rfl, hfr⟩
  · have hd := decide_eq_false hlt
    rw [hd]
    clear hd hlt
    go_wp2_with (with_reducible refine wl_stop (o := ⟨some 6, _, _, _, _, _⟩) ?_)
    refine wl_allocS st5 rfl rfl (z := .agg #[.int .u64 0, .int .u64 0, .int .u64 0, .int .u64 0]) (by kernel_rfl) (cw 4 0) (by rw [cw_zero]; rfl) ?_
    intro g6 w6 st6
    clear st5
    go_wp2_with fail
    refine (MOne_any m gp _ HOK.out (HPM.out.keep st6.fr id)).mono ?_
    rintro e' w7 ⟨rfl, hf7⟩
    have st7 := st6.keep hf7
    clear st6 hf7
    go_wp2_with (with_reducible refine wl_stop (o := ⟨some 7, _, _, _, _, _⟩) ?_)
    refine wl_allocS st7 rfl rfl (z := .agg #[.int .u64 0, .int .u64 0, .int .u64 0, .int .u64 0]) (by kernel_rfl) (cw 4 0) (by rw [cw_zero]; rfl) ?_
    intro g7 w8 st8
    clear st7
    go_wp2_with (with_reducible refine wl_stop (o := ⟨none, _, _, _, _, _⟩) ?_)
    refine wl_storeS st8 3 rfl rfl rfl rfl rfl (by first | (simp only [cw_len]; done) | (simp only [List.length_append, cw_len]; done)) (by first | (rw [cw_len]; kernel_rfl) | (simp only [List.length_append, cw_len]; kernel_rfl)) (cw_one _ _) ?_
    intro w9 st9
    clear st8
    go_wp2
    go_loopw [8] (fun i wr => ∃ j : Nat, j ≤ 256 ∧ i = .int .i64 ((j : Int) - 1) ∧ St Nob w wr [(g4, cw 4 0, 81), (g5, cw 4 (beN l), 66), (g6, cw 4 (elN m (beN l / 2 ^ j)), 81), (g7, cw 4 (elN m 1), 81)]) (fun i _ => (intOf i + 1).toNat)
    case atStart => exact ⟨256, by omega, rfl, by rw [HTOP.out]; exact st9⟩
    case round =>
      obtain ⟨j, hj, rfl, st⟩ := hrel
      clear st9
      cases j with
      | succ i =>
        rw [show (((i + 1 : Nat) : Int)) - 1 = (i : Int) by omega]
        have hge : (0 : Int) ≤ (i : Int) := by omega
        go_wp2_with (with_reducible refine wl_stop (o := ⟨some 27, _, _, _, _, _⟩) ?_)
        refine wl_loadS st 2 rfl rfl rfl Try.underlying81 rfl (by first | (rw [cw_len]; kernel_rfl) | (simp only [List.length_append, cw_len]; kernel_rfl)) ?_
        go_wp2_with (with_reducible refine wl_stop (o := ⟨some 28, _, _, _, _, _⟩) ?_)
        refine wl_loadS st 2 rfl rfl rfl Try.underlying81 rfl (by first | (rw [cw_len]; kernel_rfl) | (simp only [List.length_append, cw_len]; kernel_rfl)) ?_
        go_wp2_with fail
        refine (MAdd_any m gp _ HOK.out (HPM.out.keep st.fr id) (beN l / 2 ^ (i + 1)) (beN l / 2 ^ (i + 1))).mono ?_
        rintro e' w10 ⟨rfl, hf10⟩
        have st10 := st.keep hf10
        clear st hf10
        go_wp2_with (with_reducible refine wl_stop (o := ⟨none, _, _, _, _, _⟩) ?_)
        refine wl_storeS st10 2 rfl rfl rfl rfl rfl (by first | (simp only [cw_len]; done) | (simp only [List.length_append, cw_len]; done)) (by first | (rw [cw_len]; kernel_rfl) | (simp only [List.length_append, cw_len]; kernel_rfl)) (cw_one _ _) ?_
        intro w11 st11
        clear st10
        go_wp2_with (with_reducible refine wl_stop (o := ⟨some 30, _, _, _, _, _⟩) ?_)
        refine wl_loadS st11 1 rfl rfl rfl Try.underlying66 rfl (by first | (rw [cw_len]; kernel_rfl) | (simp only [List.length_append, cw_len]; kernel_rfl)) ?_
        go_wp2_with fail
        refine (MBit_any (beN l) i _ (by omega)).mono ?_
        rintro e' w12 ⟨rfl, hf12⟩
        have st12 := st11.keep hf12
        clear st11 hf12
        have hbt : beN l / 2 ^ i % 2 = 0 ∨ beN l / 2 ^ i % 2 = 1 := by omega
        have HS0 := Lib.hid (eladd0 m (beN l) i)
        have HS1 := Lib.hid (eladd1 m (beN l) i)
        generalize hbb : beN l / 2 ^ i % 2 = bt at *
        have HBT := Lib.hid hbb
        clear hbb
        rcases hbt with rfl | rfl
        · have hst := st12
          rw [HS0.out (by first | rfl | trivial)] at hst
          clear st12
          go_wp2
          go_roundw
          case rel => exact ⟨i, by omega, rfl, hst⟩
          case measure => simp [intOf]
        · skip
          go_wp2_with (with_reducible refine wl_stop (o := ⟨some 35, _, _, _, _, _⟩) ?_)
          refine wl_loadS st12 2 rfl rfl rfl Try.underlying81 rfl (by first | (rw [cw_len]; kernel_rfl) | (simp only [List.length_append, cw_len]; kernel_rfl)) ?_
          go_wp2_with (with_reducible refine wl_stop (o := ⟨some 36, _, _, _, _, _⟩) ?_)
          refine wl_loadS st12 3 rfl rfl rfl Try.underlying81 rfl (by first | (rw [cw_len]; kernel_rfl) | (simp only [List.length_append, cw_len]; kernel_rfl)) ?_
          go_wp2_with fail
          refine (MAdd_any m gp _ HOK.out (HPM.out.keep st12.fr id) ((beN l / 2 ^ (i + 1)) + (beN l / 2 ^ (i + 1))) 1).mono ?_
          rintro e' w13 ⟨rfl, hf13⟩
          have st13 := st12.keep hf13
          clear st12 hf13
          go_wp2_with (with_reducible refine wl_stop (o := ⟨none, _, _, _, _, _⟩) ?_)
          refine wl_storeS st13 2 rfl rfl rfl rfl rfl (by first | (simp only [cw_len]; done) | (simp only [List.length_append, cw_len]; done)) (by first | (rw [cw_len]; kernel_rfl) | (simp only [List.length_append, cw_len]; kernel_rfl)) (cw_one _ _) ?_
          intro w14 st14
          clear st13
          have hst := st14
          rw [HS1.out (by first | rfl | trivial)] at hst
          clear st14
          go_wp2
          go_roundw
          case rel => exact ⟨i, by omega, rfl, hst⟩
          case measure => simp [intOf]
      | zero =>
        rw [show (((0 : Nat) : Int)) - 1 = -1 by omega]
        go_wp2_with (with_reducible refine wl_stop (o := ⟨some 38, _, _, _, _, _⟩) ?_)
        refine wl_loadS st 2 rfl rfl rfl Try.underlying81 rfl (by first | (rw [cw_len]; kernel_rfl) | (simp only [List.length_append, cw_len]; kernel_rfl)) ?_
        go_wp2_with (with_reducible refine wl_stop (o := ⟨none, _, _, _, _, _⟩) ?_)
        refine wl_storeS st 0 rfl rfl rfl rfl rfl (by first | (simp only [cw_len]; done) | (simp only [List.length_append, cw_len]; done)) (by first | (rw [cw_len]; kernel_rfl) | (simp only [List.length_append, cw_len]; kernel_rfl)) (cw_one _ _) ?_
        intro w10 st10
        clear st
        have hr := st10.at 0 rfl
        have hfr := st10.fr
        clear st10
        go_wp2_with fail
        exact bodyPost_ret (results_arr rfl rfl hr Try.underlying81 (by first | (rw [cw_len]; kernel_rfl) | (simp only [List.length_append, cw_len]; kernel_rfl))) rfl ⟨rfl, hfr⟩
end Go.Proofs.Ytmegaegedlbckaa
