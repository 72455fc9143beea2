/- The reference's points: Times, at, G; More makers of one block for the steps of a drawn region: slice literals, boxes; operations that only yield a value; The reference's points: G, Written; The reference's points: Read; The reference's Read, for all bytes; its Base, its Same; The reference's Read and Number, each as one contract; the law's told; The law SigmaExtracts; The law GroupPoints; From a walk that turns nothing (Fr Nob) to what a law's row asks behind the call; Arguments that were handed in, opened into the words of Mem. -/
import Derived.Test.YtdbgddngapminaaMgGroupPointsProof9
import Derived.Test.YtdbgddngapminaaMgGroupPointsProof4
import Derived.Test.YtdbgddngapminaaMgGroupPointsProof3
import Derived.Test.YtdbgddngapminaaMgGroupPointsProof6
import Derived.Test.YtdbgddngapminaaMgGroupPointsProof2
import Derived.Test.YtdbgddngapminaaMgGroupPointsProof8
import Derived.Test.YtdbgddngapminaaMgGroupPointsProof1
import Derived.ProofKit
import Derived.OpenShut
import Derived.Carry
import Derived.SliceStrings
import Derived.SizedLaws
namespace Go.Proofs.Ytdbgddngapminaa
open Go.RowKit Go.Mv Mvp Mvq
attribute [local irreducible] limbs lw mix cw cSub cAdd cMul foldC valFrom beN laid be32 powm montT mstep elN mdL numB rtV rtOk kN kc kinv wrPt addR noR negR timesR tmsR RT.L

set_option maxHeartbeats 16000000 in
set_option maxRecDepth 1000000 in
theorem RTimes_c (n : Nat) (s : RT) (w : World) : Calls Try.prog 21 #[i4 n, .agg s.L.toArray] w fun e w' => e = .returned (.agg (timesR n s).L.toArray) ∧ Fr Nob w w' := by
  unfold timesR
  have st0 := St.start Nob w
  go_enter Try.func21, Try.ntmps21
  go_wp2_with (with_reducible refine wl_stop (o := ⟨some 2, _, _, _, _, _⟩) ?_)
  refine wl_boxS st0 rfl rfl rfl (cw 4 n) rfl ?_
  intro g2 w1 st1
  clear st0
  go_wp2_with (with_reducible refine wl_stop (o := ⟨some 3, _, _, _, _, _⟩) ?_)
  refine wl_boxS st1 rfl rfl rfl (s.L) rfl ?_
  intro g3 w2 st2
  clear st1
  go_wp2_with (with_reducible refine wl_stop (o := ⟨some 4, _, _, _, _, _⟩) ?_)
  refine wl_allocS st2 rfl rfl (z := .agg #[.int .u64 0, .int .u64 0, .int .u64 0, .int .u64 0, .int .u64 0, .int .u64 0, .int .u64 0, .int .u64 0, .int .u64 0, .int .u64 0, .int .u64 0, .int .u64 0]) (by kernel_rfl) (cw 12 0) (by rw [cw_zero]; rfl) ?_
  intro g4 w3 st3
  clear st2
  go_wp2_with fail
  refine (RNone_c _).mono ?_
  rintro e' w4 ⟨rfl, hf4⟩
  have st4 := st3.keep hf4
  clear st3 hf4
  go_wp2_with (with_reducible refine wl_stop (o := ⟨some 5, _, _, _, _, _⟩) ?_)
  refine wl_allocS st4 rfl rfl (z := .agg #[.int .u64 0, .int .u64 0, .int .u64 0, .int .u64 0, .int .u64 0, .int .u64 0, .int .u64 0, .int .u64 0, .int .u64 0, .int .u64 0, .int .u64 0, .int .u64 0]) (by kernel_rfl) (cw 12 0) (by rw [cw_zero]; rfl) ?_
  intro g5 w5 st5
  clear st4
  go_wp2_with (with_reducible refine wl_stop (o := ⟨none, _, _, _, _, _⟩) ?_)
  refine wl_storeS st5 3 rfl rfl rfl rfl rfl (by first | (simp [cw_len]; done) | (simp [RT.len]; done) | (simp [rpL_len]; done) | (simp [cw_len, RT.len]; done) | (simp [cw_len, rpL_len]; done) | simp [cw_len, RT.len, rpL_len]) (by kernel_rfl) (RT.one _) ?_
  intro w6 st6
  clear st5
  go_wp2
  go_loopw [6] (fun i wr => ∃ k : Nat, k ≤ 256 ∧ i = .int .i64 (255 - (k : Int)) ∧ St Nob w wr [(g2, cw 4 n, 24), (g3, s.L, 26), (g4, cw 12 0, 26), (g5, (tmsR n s k).L, 26)]) (fun i _ => (intOf i + 1).toNat)
  case atStart => exact ⟨0, by omega, rfl, by rw [tmsR_zero]; exact st6⟩
  case round =>
    obtain ⟨k, hk, rfl, st⟩ := hrel
    clear st6
    rcases Nat.lt_or_ge k 256 with hk2 | hk2
    · have hge : (0 : Int) ≤ 255 - (k : Int) := by omega
      have hrec := tmsR_succ n s k
      generalize hT' : tmsR n s (k + 1) = T' at *
      have HT' := Lib.hid hT'
      clear hT'
      generalize tmsR n s k = T at *
      have hbit := fun wx => RBit_any n (255 - k) wx (by omega)
      rw [show (((255 - k : Nat)) : Int) = 255 - (k : Int) by omega] at hbit
      have hb2 : n / 2 ^ (255 - k) % 2 < 2 := Nat.mod_lt _ (by decide)
      generalize n / 2 ^ (255 - k) % 2 = b at *
      have HREC := Lib.hid hrec
      have HBIT := Lib.hid hbit
      clear hrec hbit
      go_wp2_with (with_reducible refine wl_stop (o := ⟨some 12, _, _, _, _, _⟩) ?_)
      refine wl_loadSt st 3 rfl rfl rfl Try.underlying26 rfl rfl (by kernel_rfl) ?_
      go_wp2_with (with_reducible refine wl_stop (o := ⟨some 13, _, _, _, _, _⟩) ?_)
      refine wl_loadSt st 3 rfl rfl rfl Try.underlying26 rfl rfl (by kernel_rfl) ?_
      go_wp2_with fail
      refine (RPlus_c T T _).mono ?_
      rintro e' w7 ⟨rfl, hf7⟩
      have st7 := st.keep hf7
      clear st hf7
      go_wp2_with (with_reducible refine wl_stop (o := ⟨none, _, _, _, _, _⟩) ?_)
      refine wl_storeS st7 3 rfl rfl rfl rfl rfl (by first | (simp [cw_len]; done) | (simp [RT.len]; done) | (simp [rpL_len]; done) | (simp [cw_len, RT.len]; done) | (simp [cw_len, rpL_len]; done) | simp [cw_len, RT.len, rpL_len]) (by kernel_rfl) (RT.one _) ?_
      intro w8 st8
      clear st7
      go_wp2_with (with_reducible refine wl_stop (o := ⟨some 15, _, _, _, _, _⟩) ?_)
      refine wl_loadS st8 0 rfl rfl rfl Try.underlying24 rfl (by kernel_rfl) ?_
      go_wp2_with fail
      refine (HBIT.out _).mono ?_
      rintro e' w9 ⟨rfl, hf9⟩
      have st9 := st8.keep hf9
      clear st8 hf9
      obtain rfl | rfl : b = 0 ∨ b = 1 := by omega
      · have HE := Lib.hid (show T' = addR T T by rw [HREC.out]; rfl)
        clear hb2
        go_wp2
        go_roundw
        case rel => exact ⟨k + 1, by omega, by go_num, by rw [HT'.out, HE.out]; exact st9⟩
        case measure => simp [intOf]; omega
      · have HE := Lib.hid (show T' = addR (addR T T) s by rw [HREC.out]; rfl)
        clear hb2
        go_wp2_with (with_reducible refine wl_stop (o := ⟨some 19, _, _, _, _, _⟩) ?_)
        refine wl_loadSt st9 3 rfl rfl rfl Try.underlying26 rfl rfl (by kernel_rfl) ?_
        go_wp2_with (with_reducible refine wl_stop (o := ⟨some 20, _, _, _, _, _⟩) ?_)
        refine wl_loadSt st9 1 rfl rfl rfl Try.underlying26 rfl rfl (by kernel_rfl) ?_
        go_wp2_with fail
        refine (RPlus_c (addR T T) s _).mono ?_
        rintro e' w10 ⟨rfl, hf10⟩
        have st10 := st9.keep hf10
        clear st9 hf10
        go_wp2_with (with_reducible refine wl_stop (o := ⟨none, _, _, _, _, _⟩) ?_)
        refine wl_storeS st10 3 rfl rfl rfl rfl rfl (by first | (simp [cw_len]; done) | (simp [RT.len]; done) | (simp [rpL_len]; done) | (simp [cw_len, RT.len]; done) | (simp [cw_len, rpL_len]; done) | simp [cw_len, RT.len, rpL_len]) (by kernel_rfl) (RT.one _) ?_
        intro w11 st11
        clear st10
        go_wp2
        go_roundw
        case rel => exact ⟨k + 1, by omega, by go_num, by rw [HT'.out, HE.out]; exact st11⟩
        case measure => simp [intOf]; omega
    · have hk3 : k = 256 := by omega
      subst hk3
      have hge : ¬ ((0 : Int) ≤ 255 - ((256 : Nat) : Int)) := by omega
      go_wp2_with (with_reducible refine wl_stop (o := ⟨some 22, _, _, _, _, _⟩) ?_)
      refine wl_loadSt st 3 rfl rfl rfl Try.underlying26 rfl rfl (by kernel_rfl) ?_
      go_wp2_with (with_reducible refine wl_stop (o := ⟨none, _, _, _, _, _⟩) ?_)
      refine wl_storeS st 2 rfl rfl rfl rfl rfl (by first | (simp [cw_len]; done) | (simp [RT.len]; done) | (simp [rpL_len]; done) | (simp [cw_len, RT.len]; done) | (simp [cw_len, rpL_len]; done) | simp [cw_len, RT.len, rpL_len]) (by kernel_rfl) (RT.one _) ?_
      intro w7 st7
      clear st
      have hr := st7.at 2 rfl
      have hfr := st7.fr
      clear st7
      go_wp2_with fail
      exact bodyPost_ret (results_st rfl rfl hr Try.underlying26 rfl (by kernel_rfl)) rfl ⟨rfl, hfr⟩

set_option maxHeartbeats 16000000 in
set_option maxRecDepth 1000000 in
theorem Rat_t (x : K) (xx x3 cv : K) (exx : x * x = xx) (ex3 : xx * x = x3) (ecv : x3 + 7 = cv) (hr : rtOk fP (kN cv) = true) (w : World) : Calls Try.prog 37 #[i4 (kN x)] w fun e w' => e = .returned (.tuple #[rpV x (kc (rtV fP (kN cv))) 1, .bool true]) ∧ Fr Nob w w' := by
  have HR := Lib.hid hr
  clear hr
  have Hxx := Lib.hid exx
  have Hx3 := Lib.hid ex3
  have Hcv := Lib.hid ecv
  clear exx ex3 ecv
  unfold rpV rpL
  have st0 := St.start Nob w
  go_enter Try.func37, Try.ntmps37
  go_wp2_with (with_reducible refine wl_stop (o := ⟨some 1, _, _, _, _, _⟩) ?_)
  refine wl_boxS st0 rfl rfl rfl (cw 4 (kN x)) rfl ?_
  intro g1 w1 st1
  clear st0
  go_wp2_with (with_reducible refine wl_stop (o := ⟨some 2, _, _, _, _, _⟩) ?_)
  refine wl_allocS st1 rfl rfl (z := .agg #[.int .u64 0, .int .u64 0, .int .u64 0, .int .u64 0, .int .u64 0, .int .u64 0, .int .u64 0, .int .u64 0, .int .u64 0, .int .u64 0, .int .u64 0, .int .u64 0]) (by kernel_rfl) (cw 12 0) (by rw [cw_zero]; rfl) ?_
  intro g2 w2 st2
  clear st1
  go_wp2_with fail
  refine wp_region_noPanic ?_
  refine wp_region_lad st2 17 [.o 15, .t 4, .t 5, .t 7, .c 0, .c 1, .c 2, .c 3, .c 6, .c 8, .c 9, .c 10, .c 11, .w 12, .w 13, .w 14, .j 15] (.r 16 (.m 17 .nil)) (by kernel_rfl) (by kernel_rfl) (fun _ _ _ _ _ h => h) ?_
  clear st2
  refine lad_o rfl rfl rfl z_rn (cw 4 0) rfl ?_
  try simp only [Act.put, List.setIfInBounds_toArray, List.set_cons_zero, List.set_cons_succ]
  refine lad_arr rfl rfl rfl (fun _ => rfl) (cw 4 (kN x)) (fun wx hS => St.rangeL hS 0 rfl 0 _ (by rw [List.drop_zero, List.take_of_length_le (Nat.le_refl _)])) Try.underlying24 rfl (by kernel_rfl) ?_
  try simp only [Act.put, List.setIfInBounds_toArray, List.set_cons_zero, List.set_cons_succ]
  refine lad_arr rfl rfl rfl (fun _ => rfl) (cw 4 (kN x)) (fun wx hS => St.rangeL hS 0 rfl 0 _ (by rw [List.drop_zero, List.take_of_length_le (Nat.le_refl _)])) Try.underlying24 rfl (by kernel_rfl) ?_
  try simp only [Act.put, List.setIfInBounds_toArray, List.set_cons_zero, List.set_cons_succ]
  refine lad_arr rfl rfl rfl (fun _ => rfl) (cw 4 (kN x)) (fun wx hS => St.rangeL hS 0 rfl 0 _ (by rw [List.drop_zero, List.take_of_length_le (Nat.le_refl _)])) Try.underlying24 rfl (by kernel_rfl) ?_
  try simp only [Act.put, List.setIfInBounds_toArray, List.set_cons_zero, List.set_cons_succ]
  refine lad_call rfl rfl rfl Try.call36 (fun w hS hR => RF_any _) (fun _ => rfl) ?_
  try simp only [Act.put, List.setIfInBounds_toArray, List.set_cons_zero, List.set_cons_succ]
  refine lad_call rfl rfl rfl Try.call36 (fun w hS hR => RF_any _) (fun _ => rfl) ?_
  try simp only [Act.put, List.setIfInBounds_toArray, List.set_cons_zero, List.set_cons_succ]
  refine lad_call rfl rfl rfl Try.call36 (fun w hS hR => RF_any _) (fun _ => rfl) ?_
  try simp only [Act.put, List.setIfInBounds_toArray, List.set_cons_zero, List.set_cons_succ]
  refine lad_call rfl rfl rfl Try.call36 (fun w hS hR => RF_any _) (fun _ => rfl) ?_
  try simp only [Act.put, List.setIfInBounds_toArray, List.set_cons_zero, List.set_cons_succ]
  refine lad_call rfl rfl rfl Try.call54 (fun w hS hR => KMul x x xx Hxx.out _) (fun _ => rfl) ?_
  try simp only [Act.put, List.setIfInBounds_toArray, List.set_cons_zero, List.set_cons_succ]
  refine lad_call rfl rfl rfl Try.call54 (fun w hS hR => KMul xx x x3 Hx3.out _) (fun _ => rfl) ?_
  try simp only [Act.put, List.setIfInBounds_toArray, List.set_cons_zero, List.set_cons_succ]
  refine lad_call rfl rfl rfl Try.call79 (fun w hS hR => KSmall7 _) (fun _ => rfl) ?_
  try simp only [Act.put, List.setIfInBounds_toArray, List.set_cons_zero, List.set_cons_succ]
  refine lad_call rfl rfl rfl Try.call59 (fun w hS hR => KAdd x3 7 cv Hcv.out _) (fun _ => rfl) ?_
  try simp only [Act.put, List.setIfInBounds_toArray, List.set_cons_zero, List.set_cons_succ]
  refine lad_call rfl rfl rfl Try.call80 (fun w hS hR => KSqrt_t (kN cv) (kN_lt _) HR.out _) (fun _ => rfl) ?_
  try simp only [Act.put, List.setIfInBounds_toArray, List.set_cons_zero, List.set_cons_succ]
  iterate 3 (refine lad_w (v := ?_) rfl rfl (fun xq wx => ?_) ?_; rotate_left 1; · (go_simp; with_reducible rfl); try simp only [Act.put, List.setIfInBounds_toArray, List.set_cons_zero, List.set_cons_succ])
  refine lad_j List.mem_cons_self fun g4 => ?_
  simp only [upd, reduceIte]
  try simp only [Nat.reduceEqDiff, reduceIte]
  refine lad_end fun xq w3 st3 hR => ?_
  try dsimp only
  clear hR xq
  refine plan_r rfl rfl ?_
  refine wp_storeS st3 2 rfl rfl rfl rfl (by first | (simp [cw_len]; done) | (simp [RT.len]; done) | (simp [rpL_len]; done) | (simp [cw_len, RT.len]; done) | (simp [cw_len, rpL_len]; done) | simp [cw_len, RT.len, rpL_len]) (by kernel_rfl) (cw_one _ _) ?_
  intro w4 st4
  repeat (first | simp only [List.cons_append] at st4 | simp only [List.nil_append] at st4 | simp only [List.set_cons_succ] at st4 | simp only [List.set_cons_zero] at st4)
  clear st3
  refine ⟨by first | exact st4 | exact St.less st4 (by simp), ?_⟩
  try simp only [Act.put]
  refine plan_m rfl rfl ?_
  go_simp
  try simp only [Act.put, List.setIfInBounds_toArray, List.set_cons_zero, List.set_cons_succ]
  refine plan_end ?_
  refine NoPanic.normal ?_
  go_wp2_with fail
  refine wp_region_noPanic ?_
  refine wp_region_lad st4 5 [.t 0, .t 1, .w 4, .c 2, .w 3] (.m 5 (.w 6 .nil)) (by kernel_rfl) (by kernel_rfl) (fun _ _ _ _ _ h => h) ?_
  clear st4
  refine lad_arr rfl rfl rfl (fun _ => rfl) (cw 4 (kN x)) (fun wx hS => St.rangeL hS 0 rfl 0 _ (by rw [List.drop_zero, List.take_of_length_le (Nat.le_refl _)])) Try.underlying24 rfl (by kernel_rfl) ?_
  try simp only [Act.put, List.setIfInBounds_toArray, List.set_cons_zero, List.set_cons_succ]
  refine lad_arr rfl rfl rfl (fun _ => rfl) (cw 4 (kN (kc (rtV fP (kN cv))))) (fun wx hS => St.rangeL hS 2 rfl 0 _ (by rw [List.drop_zero, List.take_of_length_le (Nat.le_refl _)])) Try.underlying24 rfl (by kernel_rfl) ?_
  try simp only [Act.put, List.setIfInBounds_toArray, List.set_cons_zero, List.set_cons_succ]
  refine lad_w (v := ?_) rfl rfl (fun xq wx => ?_) ?_; rotate_left 1; · (go_simp; with_reducible rfl)
  try simp only [Act.put, List.setIfInBounds_toArray, List.set_cons_zero, List.set_cons_succ]
  refine lad_call rfl rfl rfl Try.call79 (fun w hS hR => KSmall1 _) (fun _ => rfl) ?_
  try simp only [Act.put, List.setIfInBounds_toArray, List.set_cons_zero, List.set_cons_succ]
  refine lad_w rfl rfl (fun _ => exec_build rfl _ (built_rp _ _ _)) ?_
  try simp only [Act.put, List.setIfInBounds_toArray, List.set_cons_zero, List.set_cons_succ]
  refine lad_end fun xq w5 st5 hR => ?_
  try dsimp only
  clear hR xq
  refine plan_m rfl rfl ?_
  refine wp_storeS st5 1 rfl rfl rfl rfl (by first | (simp [cw_len]; done) | (simp [RT.len]; done) | (simp [rpL_len]; done) | (simp [cw_len, RT.len]; done) | (simp [cw_len, rpL_len]; done) | simp [cw_len, RT.len, rpL_len]) (by kernel_rfl) (pt_one _ _ _) ?_
  intro w6 st6
  repeat (first | simp only [List.cons_append] at st6 | simp only [List.nil_append] at st6 | simp only [List.set_cons_succ] at st6 | simp only [List.set_cons_zero] at st6)
  clear st5
  try simp only [Act.put]
  refine plan_w (v := ?_) rfl rfl (fun wx => ?_) ?_; rotate_left 1; · (go_simp; with_reducible rfl)
  try simp only [Act.put, List.setIfInBounds_toArray, List.set_cons_zero, List.set_cons_succ]
  refine plan_end ?_
  refine NoPanic.normal ?_
  have hr := st6.at 1 rfl
  have hfr := st6.fr
  clear st6
  go_wp2_with fail
  exact bodyPost_ret (results_st2 rfl rfl hr Try.underlying26 rfl (by kernel_rfl) rfl) rfl ⟨rfl, hfr⟩

set_option maxHeartbeats 16000000 in
set_option maxRecDepth 1000000 in
theorem Rat_f (x : K) (xx x3 cv : K) (exx : x * x = xx) (ex3 : xx * x = x3) (ecv : x3 + 7 = cv) (hr : rtOk fP (kN cv) = false) (w : World) : Calls Try.prog 37 #[i4 (kN x)] w fun e w' => e = .returned (.tuple #[rpV x (0) 1, .bool false]) ∧ Fr Nob w w' := by
  have HR := Lib.hid hr
  clear hr
  have Hxx := Lib.hid exx
  have Hx3 := Lib.hid ex3
  have Hcv := Lib.hid ecv
  clear exx ex3 ecv
  unfold rpV rpL
  have st0 := St.start Nob w
  go_enter Try.func37, Try.ntmps37
  go_wp2_with (with_reducible refine wl_stop (o := ⟨some 1, _, _, _, _, _⟩) ?_)
  refine wl_boxS st0 rfl rfl rfl (cw 4 (kN x)) rfl ?_
  intro g1 w1 st1
  clear st0
  go_wp2_with (with_reducible refine wl_stop (o := ⟨some 2, _, _, _, _, _⟩) ?_)
  refine wl_allocS st1 rfl rfl (z := .agg #[.int .u64 0, .int .u64 0, .int .u64 0, .int .u64 0, .int .u64 0, .int .u64 0, .int .u64 0, .int .u64 0, .int .u64 0, .int .u64 0, .int .u64 0, .int .u64 0]) (by kernel_rfl) (cw 12 0) (by rw [cw_zero]; rfl) ?_
  intro g2 w2 st2
  clear st1
  go_wp2_with fail
  refine wp_region_noPanic ?_
  refine wp_region_lad st2 17 [.o 15, .t 4, .t 5, .t 7, .c 0, .c 1, .c 2, .c 3, .c 6, .c 8, .c 9, .c 10, .c 11, .w 12, .w 13, .w 14, .j 15] (.r 16 (.m 17 .nil)) (by kernel_rfl) (by kernel_rfl) (fun _ _ _ _ _ h => h) ?_
  clear st2
  refine lad_o rfl rfl rfl z_rn (cw 4 0) rfl ?_
  try simp only [Act.put, List.setIfInBounds_toArray, List.set_cons_zero, List.set_cons_succ]
  refine lad_arr rfl rfl rfl (fun _ => rfl) (cw 4 (kN x)) (fun wx hS => St.rangeL hS 0 rfl 0 _ (by rw [List.drop_zero, List.take_of_length_le (Nat.le_refl _)])) Try.underlying24 rfl (by kernel_rfl) ?_
  try simp only [Act.put, List.setIfInBounds_toArray, List.set_cons_zero, List.set_cons_succ]
  refine lad_arr rfl rfl rfl (fun _ => rfl) (cw 4 (kN x)) (fun wx hS => St.rangeL hS 0 rfl 0 _ (by rw [List.drop_zero, List.take_of_length_le (Nat.le_refl _)])) Try.underlying24 rfl (by kernel_rfl) ?_
  try simp only [Act.put, List.setIfInBounds_toArray, List.set_cons_zero, List.set_cons_succ]
  refine lad_arr rfl rfl rfl (fun _ => rfl) (cw 4 (kN x)) (fun wx hS => St.rangeL hS 0 rfl 0 _ (by rw [List.drop_zero, List.take_of_length_le (Nat.le_refl _)])) Try.underlying24 rfl (by kernel_rfl) ?_
  try simp only [Act.put, List.setIfInBounds_toArray, List.set_cons_zero, List.set_cons_succ]
  refine lad_call rfl rfl rfl Try.call36 (fun w hS hR => RF_any _) (fun _ => rfl) ?_
  try simp only [Act.put, List.setIfInBounds_toArray, List.set_cons_zero, List.set_cons_succ]
  refine lad_call rfl rfl rfl Try.call36 (fun w hS hR => RF_any _) (fun _ => rfl) ?_
  try simp only [Act.put, List.setIfInBounds_toArray, List.set_cons_zero, List.set_cons_succ]
  refine lad_call rfl rfl rfl Try.call36 (fun w hS hR => RF_any _) (fun _ => rfl) ?_
  try simp only [Act.put, List.setIfInBounds_toArray, List.set_cons_zero, List.set_cons_succ]
  refine lad_call rfl rfl rfl Try.call36 (fun w hS hR => RF_any _) (fun _ => rfl) ?_
  try simp only [Act.put, List.setIfInBounds_toArray, List.set_cons_zero, List.set_cons_succ]
  refine lad_call rfl rfl rfl Try.call54 (fun w hS hR => KMul x x xx Hxx.out _) (fun _ => rfl) ?_
  try simp only [Act.put, List.setIfInBounds_toArray, List.set_cons_zero, List.set_cons_succ]
  refine lad_call rfl rfl rfl Try.call54 (fun w hS hR => KMul xx x x3 Hx3.out _) (fun _ => rfl) ?_
  try simp only [Act.put, List.setIfInBounds_toArray, List.set_cons_zero, List.set_cons_succ]
  refine lad_call rfl rfl rfl Try.call79 (fun w hS hR => KSmall7 _) (fun _ => rfl) ?_
  try simp only [Act.put, List.setIfInBounds_toArray, List.set_cons_zero, List.set_cons_succ]
  refine lad_call rfl rfl rfl Try.call59 (fun w hS hR => KAdd x3 7 cv Hcv.out _) (fun _ => rfl) ?_
  try simp only [Act.put, List.setIfInBounds_toArray, List.set_cons_zero, List.set_cons_succ]
  refine lad_call rfl rfl rfl Try.call80 (fun w hS hR => KSqrt_f (kN cv) (kN_lt _) HR.out _) (fun _ => rfl) ?_
  try simp only [Act.put, List.setIfInBounds_toArray, List.set_cons_zero, List.set_cons_succ]
  iterate 3 (refine lad_w (v := ?_) rfl rfl (fun xq wx => ?_) ?_; rotate_left 1; · (go_simp; with_reducible rfl); try simp only [Act.put, List.setIfInBounds_toArray, List.set_cons_zero, List.set_cons_succ])
  refine lad_j List.mem_cons_self fun g4 => ?_
  simp only [upd, reduceIte]
  try simp only [Nat.reduceEqDiff, reduceIte]
  refine lad_end fun xq w3 st3 hR => ?_
  try dsimp only
  clear hR xq
  refine plan_r rfl rfl ?_
  refine wp_storeS st3 2 rfl rfl rfl rfl (by first | (simp [cw_len]; done) | (simp [RT.len]; done) | (simp [rpL_len]; done) | (simp [cw_len, RT.len]; done) | (simp [cw_len, rpL_len]; done) | simp [cw_len, RT.len, rpL_len]) (by kernel_rfl) (cw_one _ _) ?_
  intro w4 st4
  repeat (first | simp only [List.cons_append] at st4 | simp only [List.nil_append] at st4 | simp only [List.set_cons_succ] at st4 | simp only [List.set_cons_zero] at st4)
  clear st3
  refine ⟨by first | exact st4 | exact St.less st4 (by simp), ?_⟩
  try simp only [Act.put]
  refine plan_m rfl rfl ?_
  go_simp
  try simp only [Act.put, List.setIfInBounds_toArray, List.set_cons_zero, List.set_cons_succ]
  refine plan_end ?_
  refine NoPanic.normal ?_
  go_wp2_with fail
  refine wp_region_noPanic ?_
  refine wp_region_lad st4 5 [.t 0, .t 1, .w 4, .c 2, .w 3] (.m 5 (.w 6 .nil)) (by kernel_rfl) (by kernel_rfl) (fun _ _ _ _ _ h => h) ?_
  clear st4
  refine lad_arr rfl rfl rfl (fun _ => rfl) (cw 4 (kN x)) (fun wx hS => St.rangeL hS 0 rfl 0 _ (by rw [List.drop_zero, List.take_of_length_le (Nat.le_refl _)])) Try.underlying24 rfl (by kernel_rfl) ?_
  try simp only [Act.put, List.setIfInBounds_toArray, List.set_cons_zero, List.set_cons_succ]
  refine lad_arr rfl rfl rfl (fun _ => rfl) (cw 4 (kN 0)) (fun wx hS => St.rangeL hS 2 rfl 0 _ (by rw [List.drop_zero, List.take_of_length_le (Nat.le_refl _)])) Try.underlying24 rfl (by kernel_rfl) ?_
  try simp only [Act.put, List.setIfInBounds_toArray, List.set_cons_zero, List.set_cons_succ]
  refine lad_w (v := ?_) rfl rfl (fun xq wx => ?_) ?_; rotate_left 1; · (go_simp; with_reducible rfl)
  try simp only [Act.put, List.setIfInBounds_toArray, List.set_cons_zero, List.set_cons_succ]
  refine lad_call rfl rfl rfl Try.call79 (fun w hS hR => KSmall1 _) (fun _ => rfl) ?_
  try simp only [Act.put, List.setIfInBounds_toArray, List.set_cons_zero, List.set_cons_succ]
  refine lad_w rfl rfl (fun _ => exec_build rfl _ (built_rp _ _ _)) ?_
  try simp only [Act.put, List.setIfInBounds_toArray, List.set_cons_zero, List.set_cons_succ]
  refine lad_end fun xq w5 st5 hR => ?_
  try dsimp only
  clear hR xq
  refine plan_m rfl rfl ?_
  refine wp_storeS st5 1 rfl rfl rfl rfl (by first | (simp [cw_len]; done) | (simp [RT.len]; done) | (simp [rpL_len]; done) | (simp [cw_len, RT.len]; done) | (simp [cw_len, rpL_len]; done) | simp [cw_len, RT.len, rpL_len]) (by kernel_rfl) (pt_one _ _ _) ?_
  intro w6 st6
  repeat (first | simp only [List.cons_append] at st6 | simp only [List.nil_append] at st6 | simp only [List.set_cons_succ] at st6 | simp only [List.set_cons_zero] at st6)
  clear st5
  try simp only [Act.put]
  refine plan_w (v := ?_) rfl rfl (fun wx => ?_) ?_; rotate_left 1; · (go_simp; with_reducible rfl)
  try simp only [Act.put, List.setIfInBounds_toArray, List.set_cons_zero, List.set_cons_succ]
  refine plan_end ?_
  refine NoPanic.normal ?_
  have hr := st6.at 1 rfl
  have hfr := st6.fr
  clear st6
  go_wp2_with fail
  exact bodyPost_ret (results_st2 rfl rfl hr Try.underlying26 rfl (by kernel_rfl) rfl) rfl ⟨rfl, hfr⟩
end Go.Proofs.Ytdbgddngapminaa

/- More makers of one block for the steps of a drawn region: slice literals, boxes; operations that only yield a value. -/
namespace Go.Mv
open Go.RowKit
section
variable {P : Program} {Q : Exit → Act → World → Prop} {Sx : World → Prop} {S : Nat → Prop} {w0 : World} {tl : Pl} {l : List Oper} {i : Nat} {s : List LS} {Γ : List Flt} {BL : List Blk} {R : World → Prop} {A : (Nat → Value) → Act} {o : Oper}
theorem parts_arr {parts : Array (Nat × Operand)} {ρ : Operand → Value} {M : List (Nat × Value)} (h : (parts.toList.map fun p => (p.1, ρ p.2)) = M) : (parts.map fun (i, x) => (i, ρ x)) = M.toArray := by
  apply Array.toList_inj.1
  rw [Array.toList_map, ← h]
theorem mk_rows {t e : TypeId} {k : Nat} {M : List (Nat × Value)} (hu : P.underlying t = some (.slice e)) {z : Value} {sz by_ : Nat} (hi0 : (P.info? e).map (fun i => (i.zero, i.size, i.bytes)) = some (some z, sz, by_)) (vs : List Value) (hp : M = (vs.zipIdx 0).map fun x => (x.2, x.1))
    (hv : ∀ v ∈ vs, v.cells.size = sz) (hk : vs.length = k) (L : List Value) (hL : (vs.flatMap fun v => v.cells.toList) = L) (hk0 : 0 < k * sz := by decide) (hk24 : k * sz ≤ 16777216 := by decide) :
    Mk P (do pure (.value (← Instr.buildSlice t k M.toArray))) (fun g => .slice (some ⟨g, 0, none⟩) k k) L e := by
  intro w
  obtain ⟨i, hi, hz0⟩ : ∃ i, P.info? e = some i ∧ (i.zero, i.size, i.bytes) = (some z, sz, by_) := by simpa using hi0
  simp only [Prod.mk.injEq] at hz0
  obtain ⟨hz1, hsz, hby⟩ := hz0
  have hs0 : 0 < sz := Nat.pos_of_mul_pos_left hk0
  have hf : Instr.fill (fun j => some (j * i.size, i.size)) ((Array.range (k * i.size)).map (z.cells[· % z.cells.size]!)) M = some L.toArray := by
    rw [hp, hsz, ← hL]
    exact Great.fill_whole hs0 vs _ hv (by simp [hk])
  refine ⟨w.heap.size, w.alloc (.cells L.toArray e), ?_, (Fr.refl _ w).alloc _, Nat.le_refl _, Has.new w L.toArray e⟩
  simp only [Sem.run_bind, run_buildSlice w t e k M.toArray L.toArray i z hu hi hz1 (by rw [hsz]; omega) (by rw [hsz]; omega) (by simpa using hf), Result.andThen_ok, Sem.run_pure]
/-- a slice literal of structs (or of one-cell values) -/
theorem lad_rows {t e : TypeId} {k : Nat} {parts : Array (Nat × Operand)} (ho : l[i]? = some o) (hg : o.guard = none) (hop : o.op = .buildSlice t k parts) (hu : P.underlying t = some (.slice e)) {z : Value} {sz by_ : Nat} (hi0 : (P.info? e).map (fun i => (i.zero, i.size, i.bytes)) = some (some z, sz, by_))
    (vs : List Value) (hp : ∀ x, (parts.toList.map fun p => (p.1, (A x).eval p.2)) = (vs.zipIdx 0).map fun x => (x.2, x.1)) (hv : ∀ v ∈ vs, v.cells.size = sz) (hk : vs.length = k) (L : List Value) (hL : (vs.flatMap fun v => v.cells.toList) = L)
    (h : Lad P l.toArray Q Sx S w0 tl s ((i, fun g => .slice (some ⟨g, 0, none⟩) k k, L, e) :: Γ) BL R (fun x => (A x).put o.dst (x i))) (hk0 : 0 < k * sz := by decide) (hk24 : k * sz ≤ 16777216 := by decide) : Lad P l.toArray Q Sx S w0 tl (.o i :: s) Γ BL R A :=
  lad_mk ho hg (fun x => by unfold execOp; simp only [hop]; rw [parts_arr (hp x)]) (mk_rows hu hi0 vs rfl hv hk L hL hk0 hk24) h
/-- an operation that only yields a value, carried out -/
theorem lad_v (ho : l[i]? = some o) (hg : o.guard = none) {v : Value} (hv : ∀ x w, St S w0 w BL → R w → (execOp (A x).eval o).run P w = .ok (.value v) w) (h : Lad P l.toArray Q Sx S w0 tl s Γ BL R (fun x => (A x).put o.dst v)) : Lad P l.toArray Q Sx S w0 tl (.c i :: s) Γ BL R A :=
  ⟨o, by simpa using ho, hg, Unit, fun _ => v, fun _ _ => True, fun _ _ _ _ _ => trivial, fun x w hst hR => by unfold Oper.wp; rw [hv x w hst hR]; exact ⟨(), rfl, Fr.refl _ _, trivial⟩, fun _ => Lad.weaken s (fun w h => h.1) h⟩
theorem wp_val {a : Act} {w : World} {K : Act → World → Prop} {v : Value} (hv : (execOp a.eval o).run P w = .ok (.value v) w) (h : K (a.put o.dst v) w) : o.wp P a w K Q := by
  unfold Oper.wp
  rw [hv]
  exact h
theorem wp_rows {a : Act} {w : World} {K : Act → World → Prop} {t e : TypeId} {k : Nat} {parts : Array (Nat × Operand)} (hst : St S w0 w BL) (hop : o.op = .buildSlice t k parts) (hu : P.underlying t = some (.slice e)) {z : Value} {sz by_ : Nat} (hi0 : (P.info? e).map (fun i => (i.zero, i.size, i.bytes)) = some (some z, sz, by_))
    (vs : List Value) (hp : (parts.toList.map fun p => (p.1, a.eval p.2)) = (vs.zipIdx 0).map fun x => (x.2, x.1)) (hv : ∀ v ∈ vs, v.cells.size = sz) (hk : vs.length = k) (L : List Value) (hL : (vs.flatMap fun v => v.cells.toList) = L)
    (h : ∀ g w', St S w0 w' (BL ++ [(g, L, e)]) → K (a.put o.dst (.slice (some ⟨g, 0, none⟩) k k)) w') (hk0 : 0 < k * sz := by decide) (hk24 : k * sz ≤ 16777216 := by decide) : o.wp P a w K Q :=
  wp_mk (mk_rows hu hi0 vs rfl hv hk L hL hk0 hk24) (by unfold execOp; simp only [hop]; rw [parts_arr hp]) hst fun g w' h1 _ => h g w' h1
/-- THE BEGINNING, with what is known of the world and stays true -/
theorem wp_region_ladR {id : Nat} {a : Act} {w : World} (hst : St S w0 w BL) (R : World → Prop) (hR : R w.drew) (hRm : ∀ w w', R w → Fr Nob w w' → R w') (m : Nat) (s : List LS) (tl : Pl) (hm : P.follows .mixedOrders = true) (hB : ladAll l.toArray m s tl = true)
    (hQ : ∀ c (d : Option Tmp) v a w, Q (.panic c) (Act.put a d v) w → Q (.panic c) a w)
    (h : Lad P l.toArray Q (fun w => St S w0 w BL) S w0 tl s [] BL R (fun _ => a)) : (Code.region id l.toArray true).wp P Q a w := by
  simp only [ladAll, Bool.and_eq_true, decide_eq_true_eq] at hB
  obtain ⟨⟨⟨hsel, hms⟩, hlen⟩, hok⟩ := hB
  have hmk : mark (Array.replicate l.toArray.size false) (List.map Prod.fst ([] : List (Nat × Value × Blk))) = Array.replicate l.toArray.size false := by
    refine arr_ext (mark_size _ _) fun k hk => ?_
    rw [mark_get _ _ _ (by simpa [mark_size] using hk)]; simp
  have inv0 : Cl .any l.toArray (Array.replicate l.toArray.size false) :=
    ⟨by simp, fun j oj _ hl => (by rw [getD_replicate_false] at hl; cases hl)⟩
  have H := wpP_of_lad (md := .any) (Sx := fun w => St S w0 w BL) hsel hms hQ (l.toArray.size + s.length) l.toArray.size s [] (Array.replicate l.toArray.size false) [] (fun _ => undef) w.drew BL R (fun _ => a)
    (Nat.le_refl _) (by simp [hlen]) (by simp) (by simp) (by simp) (by rw [hmk]; exact inv0) hok (by simp) ⟨by simp, by simp, by simp, fun _ _ _ _ => rfl⟩ (by simp) (by simpa using hst.drew) hR hRm (fun _ h => h) h
  rw [hmk] at H
  exact wp_region_any hm (wpAny_of_P _ _ _ _ H)
end
end Go.Mv

/- The reference's points: G, Written. -/
namespace Go.Proofs.Ytdbgddngapminaa
open Go.RowKit Go.Mv Mvp Mvq
theorem gX_bytes : beN [121, 190, 102, 126, 249, 220, 187, 172, 85, 160, 98, 149, 206, 135, 11, 7, 2, 155, 252, 219, 45, 206, 40, 217, 89, 242, 129, 91, 22, 248, 23, 152] = gXn := by decide
theorem ROfG (w : World) : Calls Try.prog 39 #[.string ⟨#[121, 190, 102, 126, 249, 220, 187, 172, 85, 160, 98, 149, 206, 135, 11, 7, 2, 155, 252, 219, 45, 206, 40, 217, 89, 242, 129, 91, 22, 248, 23, 152]⟩] w fun e w' => e = .returned (i4 (kN (kc gXn))) ∧ Fr Nob w w' := by
  have h := Of_any ⟨#[121, 190, 102, 126, 249, 220, 187, 172, 85, 160, 98, 149, 206, 135, 11, 7, 2, 155, 252, 219, 45, 206, 40, 217, 89, 242, 129, 91, 22, 248, 23, 152]⟩ w (by decide)
  have e : beN [121, 190, 102, 126, 249, 220, 187, 172, 85, 160, 98, 149, 206, 135, 11, 7, 2, 155, 252, 219, 45, 206, 40, 217, 89, 242, 129, 91, 22, 248, 23, 152] = kN (kc gXn) := by rw [gX_bytes]; decide
  rw [← e]
  exact h
theorem gY_even : gYn % fP = gYn ∧ gYn % 2 = 0 ∧ gYn < fP := by decide
theorem g_rt : rtOk fP (kN (kc gXn * kc gXn * kc gXn + 7)) = true ∧ kc (rtV fP (kN (kc gXn * kc gXn * kc gXn + 7))) = kc gYn := by
  have hb : kc gYn * kc gYn = kc gXn * kc gXn * kc gXn + 7 := base_on
  rw [← hb]
  have e : kN (kc gYn * kc gYn) = gYn * gYn % fP := by rw [← kc_mul', kN_kc]
  have fp : FP fP := by rw [← pP_fP]; exact FP_P
  have h4 : fP % 4 = 3 := by decide
  have ho := root_sq fp h4 gY_even.2.2
  rw [e]
  refine ⟨ho, ?_⟩
  have hlt : gYn * gYn % fP < fP := Nat.mod_lt _ (by decide)
  have hsq := root_square fp hlt ho
  have hev := root_even fp (x := gYn * gYn % fP)
  have h2 := sq_two fp.prime gY_even.2.2 (Nat.mod_lt (rtV fP (gYn * gYn % fP)) (by decide : 0 < fP)) (by rw [hsq])
  have hy := gY_even.2.1
  rcases h2 with h2 | h2
  · rw [← kc_mod, h2]
  · exfalso
    have h3 : (fP - gYn) % fP = fP - gYn := by decide
    rw [h2, h3] at hev
    have h5 : (fP - gYn) % 2 = 1 := by decide
    omega
noncomputable def baseR : RT := affR (kc gXn) (kc gYn) base_on
theorem baseR_pt : baseR.pt = .A (kc gXn) (kc gYn) := affR_pt _ _ _
theorem baseR_L : baseR.L = rpL (kc gXn) (kc gYn) 1 := rfl
theorem RatG (w : World) : Calls Try.prog 37 #[i4 (kN (kc gXn))] w fun e w' => e = .returned (.tuple #[.agg baseR.L.toArray, .bool true]) ∧ Fr Nob w w' := by
  have h := Rat_t (kc gXn) _ _ _ rfl rfl rfl g_rt.1 w
  rw [g_rt.2] at h
  exact h
/-- the first byte, by the second coordinate's parity -/
def parB (b : Nat) : UInt8 := UInt8.ofNat (2 + b)
theorem byte_2 (b : Nat) (hb : b = 0 ∨ b = 1) : ([Value.int .u8 (2 + (b : Int))].flatMap fun v => v.cells.toList) = bs [parB b] := by
  rcases hb with rfl | rfl <;> rfl
theorem run_addS {T : TypeId} (hT : Try.prog.underlying T = some .string) (s t : ByteArray) (h : s.size + t.size ≤ 9223372036854775807) (w : World) : (binOp .add T (.string s) (.string t)).run Try.prog w = .ok (.string (s ++ t)) w := by
  have := h
  go_simp
theorem exec_addS {o : Oper} {a : Act} {p q : Operand} {T U : TypeId} {s t : ByteArray} {r : List UInt8} (ho : o.op = .binOp .add T p q U) (hp : a.eval p = .string s) (hq : a.eval q = .string t) (hT : Try.prog.underlying T = some .string) (h : s.size + t.size ≤ 1000000) (hr : s ++ t = mkS r) (w : World) :
    (execOp a.eval o).run Try.prog w = .ok (.value (.string (mkS r))) w := by
  have h2 := exec_binop (P := Try.prog) ho hp hq w (by go_simp) (run_addS hT s t (by omega) w)
  rwa [hr] at h2
theorem exec_str {P : Program} {o : Oper} {a : Act} {x : Operand} {src dst e : TypeId} (ho : o.op = .convert src dst x) (hs : P.underlying src = some (.slice e)) (he : P.underlying e = some (.int .u8)) (hd : P.underlying dst = some .string) {sa : Option Addr} {m c : Nat} {l : List UInt8}
    (hx : a.eval x = .slice sa m c) {w : World} (h : RdB w sa m l) : (execOp a.eval o).run P w = .ok (.value (.string (mkS l))) w := by
  unfold execOp
  simp only [ho, hx, Sem.run_bind, run_string h c hs he hd, Result.andThen_ok, Sem.run_pure]
theorem mkS_app (l m : List UInt8) : mkS l ++ mkS m = mkS (l ++ m) := by
  apply ByteArray.ext
  simp [mkS]
theorem z_u8 : (List.replicate 33 (Value.int .u8 0)) = bs (List.replicate 33 0) := by rfl
attribute [local irreducible] limbs lw mix cw cSub cAdd cMul foldC valFrom beN laid be32 powm montT mstep elN mdL numB rtV rtOk kN kc kinv wrPt addR noR negR timesR tmsR RT.L gXn gYn parB

set_option maxHeartbeats 16000000 in
set_option maxRecDepth 1000000 in
theorem RG_c (w : World) : Calls Try.prog 111 #[] w fun e w' => e = .returned (.agg baseR.L.toArray) ∧ Fr Nob w w' := by
  have st0 := St.start Nob w
  go_enter Try.func111, Try.ntmps111
  go_wp2_with (with_reducible refine wl_stop (o := ⟨some 0, _, _, _, _, _⟩) ?_)
  refine wl_allocS st0 rfl rfl (z := .agg #[.int .u64 0, .int .u64 0, .int .u64 0, .int .u64 0, .int .u64 0, .int .u64 0, .int .u64 0, .int .u64 0, .int .u64 0, .int .u64 0, .int .u64 0, .int .u64 0]) (by kernel_rfl) (cw 12 0) (by rw [cw_zero]; rfl) ?_
  intro g0 w1 st1
  clear st0
  go_wp2_with fail
  refine (ROfG _).mono ?_
  rintro e' w2 ⟨rfl, hf2⟩
  have st2 := st1.keep hf2
  clear st1 hf2
  go_wp2_with (with_reducible refine wl_stop (o := ⟨some 1, _, _, _, _, _⟩) ?_)
  refine wl_allocS st2 rfl rfl (z := .agg #[.int .u64 0, .int .u64 0, .int .u64 0, .int .u64 0]) (by kernel_rfl) (cw 4 0) (by rw [cw_zero]; rfl) ?_
  intro g1 w3 st3
  clear st2
  go_wp2_with (with_reducible refine wl_stop (o := ⟨none, _, _, _, _, _⟩) ?_)
  refine wl_storeS st3 1 rfl rfl rfl rfl rfl (by first | (simp [cw_len]; done) | (simp [RT.len]; done) | (simp [rpL_len]; done) | (simp [cw_len, RT.len]; done) | (simp [cw_len, rpL_len]; done) | simp [cw_len, RT.len, rpL_len]) (by kernel_rfl) (cw_one _ _) ?_
  intro w4 st4
  clear st3
  go_wp2_with (with_reducible refine wl_stop (o := ⟨some 6, _, _, _, _, _⟩) ?_)
  refine wl_loadS st4 1 rfl rfl rfl Try.underlying24 rfl (by kernel_rfl) ?_
  go_wp2_with fail
  refine (RatG _).mono ?_
  rintro e' w5 ⟨rfl, hf5⟩
  have st5 := st4.keep hf5
  clear st4 hf5
  go_wp2_with (with_reducible refine wl_stop (o := ⟨some 2, _, _, _, _, _⟩) ?_)
  refine wl_allocS st5 rfl rfl (z := .agg #[.int .u64 0, .int .u64 0, .int .u64 0, .int .u64 0, .int .u64 0, .int .u64 0, .int .u64 0, .int .u64 0, .int .u64 0, .int .u64 0, .int .u64 0, .int .u64 0]) (by kernel_rfl) (cw 12 0) (by rw [cw_zero]; rfl) ?_
  intro g2 w6 st6
  clear st5
  go_wp2_with (with_reducible refine wl_stop (o := ⟨none, _, _, _, _, _⟩) ?_)
  refine wl_storeS st6 2 rfl rfl rfl rfl rfl (by first | (simp [cw_len]; done) | (simp [RT.len]; done) | (simp [rpL_len]; done) | (simp [cw_len, RT.len]; done) | (simp [cw_len, rpL_len]; done) | simp [cw_len, RT.len, rpL_len]) (by kernel_rfl) (RT.one _) ?_
  intro w7 st7
  clear st6
  go_wp2_with (with_reducible refine wl_stop (o := ⟨some 10, _, _, _, _, _⟩) ?_)
  refine wl_loadSt st7 2 rfl rfl rfl Try.underlying26 rfl rfl (by kernel_rfl) ?_
  go_wp2_with (with_reducible refine wl_stop (o := ⟨none, _, _, _, _, _⟩) ?_)
  refine wl_storeS st7 0 rfl rfl rfl rfl rfl (by first | (simp [cw_len]; done) | (simp [RT.len]; done) | (simp [rpL_len]; done) | (simp [cw_len, RT.len]; done) | (simp [cw_len, rpL_len]; done) | simp [cw_len, RT.len, rpL_len]) (by kernel_rfl) (RT.one _) ?_
  intro w8 st8
  clear st7
  have hr := st8.at 0 rfl
  have hfr := st8.fr
  clear st8
  go_wp2_with fail
  exact bodyPost_ret (results_st rfl rfl hr Try.underlying26 rfl (by kernel_rfl)) rfl ⟨rfl, hfr⟩

set_option maxHeartbeats 16000000 in
set_option maxRecDepth 1000000 in
theorem RWritten_O (x y z : K) (hb : decide (z = 0) = true) (w : World) : Calls Try.prog 19 #[rpV x y z] w fun e w' => e = .returned (.string (mkS (List.replicate 33 0))) ∧ Fr Nob w w' := by
  have HB := Lib.hid hb
  clear hb
  unfold rpV rpL
  have st0 := St.start Nob w
  go_enter Try.func19, Try.ntmps19
  go_wp2_with (with_reducible refine wl_stop (o := ⟨some 1, _, _, _, _, _⟩) ?_)
  refine wl_boxS st0 rfl rfl rfl (cw 4 (kN x) ++ (cw 4 (kN y) ++ cw 4 (kN z))) rfl ?_
  intro g1 w1 st1
  clear st0
  go_wp2_with (with_reducible refine wl_stop (o := ⟨some 7, _, _, _, _, _⟩) ?_)
  refine wl_loadSt st1 0 rfl rfl rfl Try.underlying26 rfl rfl (by kernel_rfl) ?_
  go_wp2_with fail
  refine (RIs_any x y z true HB.out _).mono ?_
  rintro e' w2 ⟨rfl, hf2⟩
  have st2 := st1.keep hf2
  clear st1 hf2
  go_wp2_with (with_reducible refine wl_stop (o := ⟨some 10, _, _, _, _, _⟩) ?_)
  refine wl_make rfl rfl Try.underlying34 info_u8 rfl rfl rfl 33 33 (by simp) (by simp) (by omega) (by omega) (by unfold maxLen; omega) ?_
  intro w3 hg2 hf2 hz2
  clear hz2
  have st3 := st2.new hf2 hg2 (Nat.le_refl _)
  clear st2 hg2 hf2
  rw [z_u8] at st3
  go_wp2_with (with_reducible refine wl_stop (o := ⟨some 11, _, _, _, _, _⟩) ?_)
  refine wl_string rfl rfl Try.underlying34 Try.underlying5 Try.underlying9 rfl (l := List.replicate 33 0) (Rd.whole (st3.at 1 rfl)) ?_
  have hfr := st3.fr
  clear st3
  go_wp2_with fail
  go_ret
  exact ⟨rfl, hfr⟩

set_option maxHeartbeats 16000000 in
set_option maxRecDepth 1000000 in
theorem RWritten_v (x y z : K) (hb : decide (z = 0) = false) (i X Y : K) (ei : kinv z = i) (eX : x * i = X) (eY : y * i = Y) (w : World) : Calls Try.prog 19 #[rpV x y z] w fun e w' => e = .returned (.string (mkS (parB (kN Y % 2) :: be32 (kN X)))) ∧ Fr Nob w w' := by
  have HB := Lib.hid hb
  clear hb
  have Hi := Lib.hid ei
  have HX := Lib.hid eX
  have HY := Lib.hid eY
  clear ei eX eY
  unfold rpV rpL
  have st0 := St.start Nob w
  go_enter Try.func19, Try.ntmps19
  go_wp2_with (with_reducible refine wl_stop (o := ⟨some 1, _, _, _, _, _⟩) ?_)
  refine wl_boxS st0 rfl rfl rfl (cw 4 (kN x) ++ (cw 4 (kN y) ++ cw 4 (kN z))) rfl ?_
  intro g1 w1 st1
  clear st0
  go_wp2_with (with_reducible refine wl_stop (o := ⟨some 7, _, _, _, _, _⟩) ?_)
  refine wl_loadSt st1 0 rfl rfl rfl Try.underlying26 rfl rfl (by kernel_rfl) ?_
  go_wp2_with fail
  refine (RIs_any x y z false HB.out _).mono ?_
  rintro e' w2 ⟨rfl, hf2⟩
  have st2 := st1.keep hf2
  clear st1 hf2
  go_wp2_with fail
  refine wp_region_noPanic ?_
  refine wp_region_lad st2 5 [.o 4, .w 1, .t 2, .c 0, .c 3, .j 4] (.m 5 .nil) (by kernel_rfl) (by kernel_rfl) (fun _ _ _ _ _ h => h) ?_
  clear st2
  refine lad_o rfl rfl rfl z_rn (cw 4 0) rfl ?_
  try simp only [Act.put, List.setIfInBounds_toArray, List.set_cons_zero, List.set_cons_succ]
  refine lad_w (v := ?_) rfl rfl (fun xq wx => ?_) ?_; rotate_left 1; · (go_simp; with_reducible rfl)
  try simp only [Act.put, List.setIfInBounds_toArray, List.set_cons_zero, List.set_cons_succ]
  refine lad_arr rfl rfl rfl (fun _ => rfl) (cw 4 (kN z)) (fun wx hS => St.rangeL hS 0 rfl 8 _ (pt_z _ _ _)) Try.underlying24 rfl (by kernel_rfl) ?_
  try simp only [Act.put, List.setIfInBounds_toArray, List.set_cons_zero, List.set_cons_succ]
  refine lad_call rfl rfl rfl Try.call36 (fun w hS hR => RF_any _) (fun _ => rfl) ?_
  try simp only [Act.put, List.setIfInBounds_toArray, List.set_cons_zero, List.set_cons_succ]
  refine lad_call rfl rfl rfl Try.call53 (fun w hS hR => KInv z i Hi.out _) (fun _ => rfl) ?_
  try simp only [Act.put, List.setIfInBounds_toArray, List.set_cons_zero, List.set_cons_succ]
  refine lad_j List.mem_cons_self fun g4 => ?_
  simp only [upd, reduceIte]
  try simp only [Nat.reduceEqDiff, reduceIte]
  refine lad_end fun xq w3 st3 hR => ?_
  try dsimp only
  clear hR xq
  refine plan_m rfl rfl ?_
  refine wp_storeS st3 1 rfl rfl rfl rfl (by first | (simp [cw_len]; done) | (simp [RT.len]; done) | (simp [rpL_len]; done) | (simp [cw_len, RT.len]; done) | (simp [cw_len, rpL_len]; done) | simp [cw_len, RT.len, rpL_len]) (by kernel_rfl) (cw_one _ _) ?_
  intro w4 st4
  repeat (first | simp only [List.cons_append] at st4 | simp only [List.nil_append] at st4 | simp only [List.set_cons_succ] at st4 | simp only [List.set_cons_zero] at st4)
  clear st3
  try simp only [Act.put]
  refine plan_end ?_
  refine NoPanic.normal ?_
  go_wp2_with fail
  refine wp_region_noPanic ?_
  refine wp_region_lad st4 6 [.o 5, .w 1, .t 2, .t 3, .c 0, .c 4, .j 5] (.m 6 .nil) (by kernel_rfl) (by kernel_rfl) (fun _ _ _ _ _ h => h) ?_
  clear st4
  refine lad_o rfl rfl rfl z_rn (cw 4 0) rfl ?_
  try simp only [Act.put, List.setIfInBounds_toArray, List.set_cons_zero, List.set_cons_succ]
  refine lad_w (v := ?_) rfl rfl (fun xq wx => ?_) ?_; rotate_left 1; · (go_simp; with_reducible rfl)
  try simp only [Act.put, List.setIfInBounds_toArray, List.set_cons_zero, List.set_cons_succ]
  refine lad_arr rfl rfl rfl (fun _ => rfl) (cw 4 (kN x)) (fun wx hS => St.rangeL hS 0 rfl 0 _ (pt_x _ _ _)) Try.underlying24 rfl (by kernel_rfl) ?_
  try simp only [Act.put, List.setIfInBounds_toArray, List.set_cons_zero, List.set_cons_succ]
  refine lad_arr rfl rfl rfl (fun _ => rfl) (cw 4 (kN i)) (fun wx hS => St.rangeL hS 1 rfl 0 _ (by rw [List.drop_zero, List.take_of_length_le (Nat.le_refl _)])) Try.underlying24 rfl (by kernel_rfl) ?_
  try simp only [Act.put, List.setIfInBounds_toArray, List.set_cons_zero, List.set_cons_succ]
  refine lad_call rfl rfl rfl Try.call36 (fun w hS hR => RF_any _) (fun _ => rfl) ?_
  try simp only [Act.put, List.setIfInBounds_toArray, List.set_cons_zero, List.set_cons_succ]
  refine lad_call rfl rfl rfl Try.call54 (fun w hS hR => KMul x i X HX.out _) (fun _ => rfl) ?_
  try simp only [Act.put, List.setIfInBounds_toArray, List.set_cons_zero, List.set_cons_succ]
  refine lad_j List.mem_cons_self fun g5 => ?_
  simp only [upd, reduceIte]
  try simp only [Nat.reduceEqDiff, reduceIte]
  refine lad_end fun xq w5 st5 hR => ?_
  try dsimp only
  clear hR xq
  refine plan_m rfl rfl ?_
  refine wp_storeS st5 2 rfl rfl rfl rfl (by first | (simp [cw_len]; done) | (simp [RT.len]; done) | (simp [rpL_len]; done) | (simp [cw_len, RT.len]; done) | (simp [cw_len, rpL_len]; done) | simp [cw_len, RT.len, rpL_len]) (by kernel_rfl) (cw_one _ _) ?_
  intro w6 st6
  repeat (first | simp only [List.cons_append] at st6 | simp only [List.nil_append] at st6 | simp only [List.set_cons_succ] at st6 | simp only [List.set_cons_zero] at st6)
  clear st5
  try simp only [Act.put]
  refine plan_end ?_
  refine NoPanic.normal ?_
  go_wp2_with fail
  refine wp_region_noPanic ?_
  refine wp_region_lad st6 6 [.o 5, .w 1, .t 2, .t 3, .c 0, .c 4, .j 5] (.m 6 .nil) (by kernel_rfl) (by kernel_rfl) (fun _ _ _ _ _ h => h) ?_
  clear st6
  refine lad_o rfl rfl rfl z_rn (cw 4 0) rfl ?_
  try simp only [Act.put, List.setIfInBounds_toArray, List.set_cons_zero, List.set_cons_succ]
  refine lad_w (v := ?_) rfl rfl (fun xq wx => ?_) ?_; rotate_left 1; · (go_simp; with_reducible rfl)
  try simp only [Act.put, List.setIfInBounds_toArray, List.set_cons_zero, List.set_cons_succ]
  refine lad_arr rfl rfl rfl (fun _ => rfl) (cw 4 (kN y)) (fun wx hS => St.rangeL hS 0 rfl 4 _ (pt_y _ _ _)) Try.underlying24 rfl (by kernel_rfl) ?_
  try simp only [Act.put, List.setIfInBounds_toArray, List.set_cons_zero, List.set_cons_succ]
  refine lad_arr rfl rfl rfl (fun _ => rfl) (cw 4 (kN i)) (fun wx hS => St.rangeL hS 1 rfl 0 _ (by rw [List.drop_zero, List.take_of_length_le (Nat.le_refl _)])) Try.underlying24 rfl (by kernel_rfl) ?_
  try simp only [Act.put, List.setIfInBounds_toArray, List.set_cons_zero, List.set_cons_succ]
  refine lad_call rfl rfl rfl Try.call36 (fun w hS hR => RF_any _) (fun _ => rfl) ?_
  try simp only [Act.put, List.setIfInBounds_toArray, List.set_cons_zero, List.set_cons_succ]
  refine lad_call rfl rfl rfl Try.call54 (fun w hS hR => KMul y i Y HY.out _) (fun _ => rfl) ?_
  try simp only [Act.put, List.setIfInBounds_toArray, List.set_cons_zero, List.set_cons_succ]
  refine lad_j List.mem_cons_self fun g6 => ?_
  simp only [upd, reduceIte]
  try simp only [Nat.reduceEqDiff, reduceIte]
  refine lad_end fun xq w7 st7 hR => ?_
  try dsimp only
  clear hR xq
  refine plan_m rfl rfl ?_
  refine wp_storeS st7 3 rfl rfl rfl rfl (by first | (simp [cw_len]; done) | (simp [RT.len]; done) | (simp [rpL_len]; done) | (simp [cw_len, RT.len]; done) | (simp [cw_len, rpL_len]; done) | simp [cw_len, RT.len, rpL_len]) (by kernel_rfl) (cw_one _ _) ?_
  intro w8 st8
  repeat (first | simp only [List.cons_append] at st8 | simp only [List.nil_append] at st8 | simp only [List.set_cons_succ] at st8 | simp only [List.set_cons_zero] at st8)
  clear st7
  try simp only [Act.put]
  refine plan_end ?_
  refine NoPanic.normal ?_
  have ha := low_and (kN Y)
  have hb2 : kN Y % 2 = 0 ∨ kN Y % 2 = 1 := by omega
  generalize hbv : kN Y % 2 = b at *
  have HBV := Lib.hid hbv
  clear hbv
  have hw8 : IntKind.u8.wrap (b : Int) = (b : Int) := by rcases hb2 with rfl | rfl <;> decide
  have hw9 : IntKind.u8.wrap (2 + (b : Int)) = 2 + (b : Int) := by rcases hb2 with rfl | rfl <;> decide
  have HB2 := Lib.hid hb2
  clear hb2
  go_wp2_with fail
  refine wp_region_noPanic ?_
  refine wp_region_plan (fun wx => St Nob w wx [(g1, cw 4 (kN x) ++ (cw 4 (kN y) ++ cw 4 (kN z)), 26), (g4, cw 4 (kN i), 24), (g5, cw 4 (kN X), 24), (g6, cw 4 (kN Y), 24)]) 10 (.w 0 (.t 1 (.w 2 (.w 3 (.w 4 (.t 7 (.b 5 8 (.b 6 8 (.r 8 (.r 9 (.m 10 .nil))) (.r 6 (.r 9 (.m 10 .nil)))) (.r 5 (.r 6 (.r 9 (.m 10 .nil))))))))))) (by kernel_rfl) (by kernel_rfl) st8.drew (fun _ _ _ _ _ h => h) ?_
  have hd8 := st8.drew
  clear st8
  refine plan_w (v := ?_) rfl rfl (fun wx => ?_) ?_; rotate_left 1; · (go_simp; with_reducible rfl)
  try simp only [Act.put, List.setIfInBounds_toArray, List.set_cons_zero, List.set_cons_succ]
  refine plan_t (v := ?_) rfl rfl (fun wx hS => ?_) ?_
  rotate_left 1
  · (have hc := (St.at hS 3 rfl).cell (cw_get 4 (kN Y) 0 (by decide)); clear hS; go_simp; with_reducible rfl)
  try simp only [Act.put, List.setIfInBounds_toArray, List.set_cons_zero, List.set_cons_succ]
  iterate 3 (refine plan_w (v := ?_) rfl rfl (fun wx => ?_) ?_; rotate_left 1; · (go_simp; with_reducible rfl); try simp only [Act.put, List.setIfInBounds_toArray, List.set_cons_zero, List.set_cons_succ])
  refine plan_arr rfl rfl rfl rfl (cw 4 (kN X)) (fun wx hS => St.rangeL hS 2 rfl 0 _ (by rw [List.drop_zero, List.take_of_length_le (Nat.le_refl _)])) Try.underlying24 rfl (by kernel_rfl) ?_
  try simp only [Act.put, List.setIfInBounds_toArray, List.set_cons_zero, List.set_cons_succ]
  refine plan_key1 (C := fun g31 wz => St Nob w wz [(g1, cw 4 (kN x) ++ (cw 4 (kN y) ++ cw 4 (kN z)), 26), (g4, cw 4 (kN i), 24), (g5, cw 4 (kN X), 24), (g6, cw 4 (kN Y), 24), (g31, bs [parB b], 5)]) (F := ?_) (fun key => ?_) ?_
  rotate_left 1
  · skip
    refine plan_b0 rfl rfl rfl rfl ?_ ?_
    · skip
      refine wp_rows hd8 rfl Try.underlying34 info_u8 [.int .u8 (2 + (b : Int))] rfl (by simp [Value.cells]) rfl _ (byte_2 b HB2.out) ?_
      intro g31 w9 st9
      refine ⟨St.less st9 (by simp), ?_⟩
      try simp only [Act.put, List.setIfInBounds_toArray, List.set_cons_zero, List.set_cons_succ]
      refine plan_b0 rfl rfl rfl rfl ?_ ?_
      · skip
        refine wp_val (exec_str rfl Try.underlying34 Try.underlying5 Try.underlying9 rfl (l := [parB b]) (Rd.whole (st9.at 4 rfl))) ?_
        have st10 := st9
        refine ⟨St.less st10 (by simp), ?_⟩
        try simp only [Act.put, List.setIfInBounds_toArray, List.set_cons_zero, List.set_cons_succ]
        refine plan_r rfl rfl ?_
        go_simp
        refine (RBytes_any (kN X) _).mono ?_
        rintro e' w11 ⟨rfl, hf11⟩
        have st11 := st10.keep hf11
        clear hf11
        refine ⟨St.less st11 (by simp), ?_⟩
        try simp only [Act.put, List.setIfInBounds_toArray, List.set_cons_zero, List.set_cons_succ]
        refine plan_r rfl rfl ?_
        refine wp_val (exec_addS rfl rfl rfl Try.underlying9 (by rw [mkS_size, mkS_size, be32_len]; simp) (mkS_app _ _) _) ?_
        have st12 := st11
        refine ⟨St.less st12 (by simp), ?_⟩
        try simp only [Act.put, List.setIfInBounds_toArray, List.set_cons_zero, List.set_cons_succ]
        refine plan_m rfl rfl ?_
        go_simp
        try simp only [Act.put, List.setIfInBounds_toArray, List.set_cons_zero, List.set_cons_succ]
        refine plan_end ?_
        exact key g31 _ st12
      · skip
        go_simp
        refine (RBytes_any (kN X) _).mono ?_
        rintro e' w13 ⟨rfl, hf13⟩
        have st13 := st9.keep hf13
        clear hf13
        refine ⟨St.less st13 (by simp), ?_⟩
        try simp only [Act.put, List.setIfInBounds_toArray, List.set_cons_zero, List.set_cons_succ]
        refine plan_r rfl rfl ?_
        refine wp_val (exec_str rfl Try.underlying34 Try.underlying5 Try.underlying9 rfl (l := [parB b]) (Rd.whole (st13.at 4 rfl))) ?_
        have st14 := st13
        refine ⟨St.less st14 (by simp), ?_⟩
        try simp only [Act.put, List.setIfInBounds_toArray, List.set_cons_zero, List.set_cons_succ]
        refine plan_r rfl rfl ?_
        refine wp_val (exec_addS rfl rfl rfl Try.underlying9 (by rw [mkS_size, mkS_size, be32_len]; simp) (mkS_app _ _) _) ?_
        have st15 := st14
        refine ⟨St.less st15 (by simp), ?_⟩
        try simp only [Act.put, List.setIfInBounds_toArray, List.set_cons_zero, List.set_cons_succ]
        refine plan_m rfl rfl ?_
        go_simp
        try simp only [Act.put, List.setIfInBounds_toArray, List.set_cons_zero, List.set_cons_succ]
        refine plan_end ?_
        exact key g31 _ st15
    · skip
      go_simp
      refine (RBytes_any (kN X) _).mono ?_
      rintro e' w16 ⟨rfl, hf16⟩
      have st16 := hd8.keep hf16
      clear hf16
      refine ⟨st16, ?_⟩
      try simp only [Act.put, List.setIfInBounds_toArray, List.set_cons_zero, List.set_cons_succ]
      refine plan_r rfl rfl ?_
      refine wp_rows st16 rfl Try.underlying34 info_u8 [.int .u8 (2 + (b : Int))] rfl (by simp [Value.cells]) rfl _ (byte_2 b HB2.out) ?_
      intro g31 w17 st17
      refine ⟨St.less st17 (by simp), ?_⟩
      try simp only [Act.put, List.setIfInBounds_toArray, List.set_cons_zero, List.set_cons_succ]
      refine plan_r rfl rfl ?_
      refine wp_val (exec_str rfl Try.underlying34 Try.underlying5 Try.underlying9 rfl (l := [parB b]) (Rd.whole (st17.at 4 rfl))) ?_
      have st18 := st17
      refine ⟨St.less st18 (by simp), ?_⟩
      try simp only [Act.put, List.setIfInBounds_toArray, List.set_cons_zero, List.set_cons_succ]
      refine plan_r rfl rfl ?_
      refine wp_val (exec_addS rfl rfl rfl Try.underlying9 (by rw [mkS_size, mkS_size, be32_len]; simp) (mkS_app _ _) _) ?_
      have st19 := st18
      refine ⟨St.less st19 (by simp), ?_⟩
      try simp only [Act.put, List.setIfInBounds_toArray, List.set_cons_zero, List.set_cons_succ]
      refine plan_m rfl rfl ?_
      go_simp
      try simp only [Act.put, List.setIfInBounds_toArray, List.set_cons_zero, List.set_cons_succ]
      refine plan_end ?_
      exact key g31 _ st19
  intro g31 w20 st20
  have st20 : St Nob w w20 [(g1, cw 4 (kN x) ++ (cw 4 (kN y) ++ cw 4 (kN z)), 26), (g4, cw 4 (kN i), 24), (g5, cw 4 (kN X), 24), (g6, cw 4 (kN Y), 24), (g31, bs [parB b], 5)] := st20
  clear hd8
  refine NoPanic.normal ?_
  have hfr := st20.fr
  clear st20
  go_wp2_with fail
  go_ret
  exact ⟨by rw [HBV.out]; rfl, hfr⟩

end Go.Proofs.Ytdbgddngapminaa
namespace Go.Proofs.Ytdbgddngapminaa
open Go.RowKit Go.Mv Mvp Mvq
theorem wrPt_K (x y : K) : wrPt (.A x y) = parB (kN y % 2) :: be32 (kN x) := rfl
theorem RWritten_c (s : RT) (w : World) : Calls Try.prog 19 #[.agg s.L.toArray] w fun e w' => e = .returned (.string (mkS (wrPt s.pt))) ∧ Fr Nob w w' := by
  cases h : s.isO
  · have hz : s.z ≠ 0 := by simpa [RT.isO] using h
    have h2 : s.pt = .A (s.x * kinv s.z) (s.y * kinv s.z) := nm_nz hz
    rw [h2, wrPt_K]
    exact RWritten_v s.x s.y s.z h _ _ _ rfl rfl rfl w
  · rw [RT.isO_t h]
    exact RWritten_O s.x s.y s.z h w
end Go.Proofs.Ytdbgddngapminaa

/- The reference's points: Read. -/
namespace Go.Proofs.Ytdbgddngapminaa
open Go.RowKit Go.Mv Mvp Mvq
theorem exec_eqlS {o : Oper} {a : Act} {p q : Operand} {T U : TypeId} {s t : ByteArray} (ho : o.op = .binOp .eql T p q U) (hp : a.eval p = .string s) (hq : a.eval q = .string t) {b : Bool} (hb : decide (s = t) = b) (w : World) :
    (execOp a.eval o).run Try.prog w = .ok (.value (.bool b)) w := by
  subst hb
  exact exec_binop ho hp hq w (by go_simp) (by
    go_simp
    rw [Bool.eq_iff_iff, beq_iff_eq, decide_eq_true_eq, toList_data, toList_data]
    exact ⟨fun h => ByteArray.ext (Array.toList_inj.1 h), fun h => by rw [h]⟩)
attribute [local irreducible] limbs lw mix cw cSub cAdd cMul foldC valFrom beN laid be32 powm montT mstep elN mdL numB rtV rtOk kN kc kinv wrPt addR noR negR timesR tmsR RT.L gXn gYn

set_option maxHeartbeats 16000000 in
set_option maxRecDepth 1000000 in
theorem RRead_zero (s : ByteArray) (hz : decide (s = (mkS (List.replicate 33 0))) = true) (w : World) : Calls Try.prog 9 #[.string s] w fun e w' => e = .returned (.tuple #[.agg noR.L.toArray, .bool true]) ∧ Fr Nob w w' := by
  have HZ := Lib.hid hz
  clear hz
  have st0 := St.start Nob w
  go_enter Try.func9, Try.ntmps9
  go_wp2_with (with_reducible refine wl_stop (o := ⟨some 2, _, _, _, _, _⟩) ?_)
  refine wl_allocS st0 rfl rfl (z := .agg #[.int .u64 0, .int .u64 0, .int .u64 0, .int .u64 0, .int .u64 0, .int .u64 0, .int .u64 0, .int .u64 0, .int .u64 0, .int .u64 0, .int .u64 0, .int .u64 0]) (by kernel_rfl) (cw 12 0) (by rw [cw_zero]; rfl) ?_
  intro g2 w1 st1
  clear st0
  go_wp2_with (with_reducible refine wl_stop (o := ⟨some 8, _, _, _, _, _⟩) ?_)
  refine wl_make rfl rfl Try.underlying34 info_u8 rfl rfl rfl 33 33 (by simp) (by simp) (by omega) (by omega) (by unfold maxLen; omega) ?_
  intro w2 hg2 hf2 hz2
  clear hz2
  have st2 := st1.new hf2 hg2 (Nat.le_refl _)
  clear st1 hg2 hf2
  rw [z_u8] at st2
  go_wp2_with (with_reducible refine wl_stop (o := ⟨some 9, _, _, _, _, _⟩) ?_)
  refine wl_string rfl rfl Try.underlying34 Try.underlying5 Try.underlying9 rfl (l := List.replicate 33 0) (Rd.whole (st2.at 1 rfl)) ?_
  have st3 := st2.less (List.sublist_append_left _ _)
  clear st2
  go_wp2_with (with_reducible refine wl_stop (o := ⟨some 10, _, _, _, _, _⟩) ?_)
  refine wl_exec rfl (exec_eqlS rfl rfl rfl HZ.out _) ?_
  go_wp2_with fail
  refine (RNone_c _).mono ?_
  rintro e' w4 ⟨rfl, hf4⟩
  have st4 := st3.keep hf4
  clear st3 hf4
  go_wp2_with (with_reducible refine wl_stop (o := ⟨none, _, _, _, _, _⟩) ?_)
  refine wl_storeS st4 0 rfl rfl rfl rfl rfl (by first | (simp [cw_len]; done) | (simp [RT.len]; done) | (simp [rpL_len]; done) | (simp [cw_len, RT.len]; done) | (simp [cw_len, rpL_len]; done) | simp [cw_len, RT.len, rpL_len]) (by kernel_rfl) (RT.one _) ?_
  intro w5 st5
  clear st4
  have hr := st5.at 0 rfl
  have hfr := st5.fr
  clear st5
  go_wp2_with fail
  exact bodyPost_ret (results_st2 rfl rfl hr Try.underlying26 rfl (by kernel_rfl) rfl) rfl ⟨rfl, hfr⟩

set_option maxHeartbeats 16000000 in
set_option maxRecDepth 1000000 in
theorem RRead_len (s : ByteArray) (hz : decide (s = (mkS (List.replicate 33 0))) = false) (hl : ((s.size : Int) != 33) = true) (w : World) : Calls Try.prog 9 #[.string s] w fun e w' => e = .returned (.tuple #[rpV 0 0 0, .bool false]) ∧ Fr Nob w w' := by
  have HZ := Lib.hid hz
  clear hz
  have st0 := St.start Nob w
  go_enter Try.func9, Try.ntmps9
  go_wp2_with (with_reducible refine wl_stop (o := ⟨some 2, _, _, _, _, _⟩) ?_)
  refine wl_allocS st0 rfl rfl (z := .agg #[.int .u64 0, .int .u64 0, .int .u64 0, .int .u64 0, .int .u64 0, .int .u64 0, .int .u64 0, .int .u64 0, .int .u64 0, .int .u64 0, .int .u64 0, .int .u64 0]) (by kernel_rfl) (cw 12 0) (by rw [cw_zero]; rfl) ?_
  intro g2 w1 st1
  clear st0
  go_wp2_with (with_reducible refine wl_stop (o := ⟨some 8, _, _, _, _, _⟩) ?_)
  refine wl_make rfl rfl Try.underlying34 info_u8 rfl rfl rfl 33 33 (by simp) (by simp) (by omega) (by omega) (by unfold maxLen; omega) ?_
  intro w2 hg2 hf2 hz2
  clear hz2
  have st2 := st1.new hf2 hg2 (Nat.le_refl _)
  clear st1 hg2 hf2
  rw [z_u8] at st2
  go_wp2_with (with_reducible refine wl_stop (o := ⟨some 9, _, _, _, _, _⟩) ?_)
  refine wl_string rfl rfl Try.underlying34 Try.underlying5 Try.underlying9 rfl (l := List.replicate 33 0) (Rd.whole (st2.at 1 rfl)) ?_
  have st3 := st2.less (List.sublist_append_left _ _)
  clear st2
  go_wp2_with (with_reducible refine wl_stop (o := ⟨some 10, _, _, _, _, _⟩) ?_)
  refine wl_exec rfl (exec_eqlS rfl rfl rfl HZ.out _) ?_
  go_wp2_with (with_reducible refine wl_stop (o := ⟨some 25, _, _, _, _, _⟩) ?_)
  refine wl_buildL rfl rfl _ built_rp0 ?_
  go_wp2_with (with_reducible refine wl_stop (o := ⟨none, _, _, _, _, _⟩) ?_)
  refine wl_storeS st3 0 rfl rfl rfl rfl rfl (by first | (simp [cw_len]; done) | (simp [RT.len]; done) | (simp [rpL_len]; done) | (simp [cw_len, RT.len]; done) | (simp [cw_len, rpL_len]; done) | simp [cw_len, RT.len, rpL_len]) (by kernel_rfl) (pt_one _ _ _) ?_
  intro w4 st4
  clear st3
  have hr := st4.at 0 rfl
  have hfr := st4.fr
  clear st4
  go_wp2_with fail
  exact bodyPost_ret (results_st2 rfl rfl hr Try.underlying26 rfl (by kernel_rfl) rfl) rfl ⟨by unfold rpV rpL; rw [kN_zero]; rfl, hfr⟩

set_option maxHeartbeats 16000000 in
set_option maxRecDepth 1000000 in
theorem RRead_head (s : ByteArray) (hz : decide (s = (mkS (List.replicate 33 0))) = false) (hl : s.size = 33) (q : Nat) (hb : ∀ h : 0 < s.size, ((s[0]'h).toNat : Int) = (q : Int)) (h2 : ((q : Int) != 2) = true) (h3 : ((q : Int) != 3) = true) (w : World) : Calls Try.prog 9 #[.string s] w fun e w' => e = .returned (.tuple #[rpV 0 0 0, .bool false]) ∧ Fr Nob w w' := by
  have HZ := Lib.hid hz
  clear hz
  have hl33 : ((s.size : Int) != 33) = false := by rw [hl]; rfl
  have h0 : (0 : Int) < (s.size : Int) := by omega
  have h00 : 0 < s.size := by omega
  have h1 : (1 : Int) ≤ (s.size : Int) := by omega
  have hb0 := hb h00
  clear hl hb
  have st0 := St.start Nob w
  go_enter Try.func9, Try.ntmps9
  go_wp2_with (with_reducible refine wl_stop (o := ⟨some 2, _, _, _, _, _⟩) ?_)
  refine wl_allocS st0 rfl rfl (z := .agg #[.int .u64 0, .int .u64 0, .int .u64 0, .int .u64 0, .int .u64 0, .int .u64 0, .int .u64 0, .int .u64 0, .int .u64 0, .int .u64 0, .int .u64 0, .int .u64 0]) (by kernel_rfl) (cw 12 0) (by rw [cw_zero]; rfl) ?_
  intro g2 w1 st1
  clear st0
  go_wp2_with (with_reducible refine wl_stop (o := ⟨some 8, _, _, _, _, _⟩) ?_)
  refine wl_make rfl rfl Try.underlying34 info_u8 rfl rfl rfl 33 33 (by simp) (by simp) (by omega) (by omega) (by unfold maxLen; omega) ?_
  intro w2 hg2 hf2 hz2
  clear hz2
  have st2 := st1.new hf2 hg2 (Nat.le_refl _)
  clear st1 hg2 hf2
  rw [z_u8] at st2
  go_wp2_with (with_reducible refine wl_stop (o := ⟨some 9, _, _, _, _, _⟩) ?_)
  refine wl_string rfl rfl Try.underlying34 Try.underlying5 Try.underlying9 rfl (l := List.replicate 33 0) (Rd.whole (st2.at 1 rfl)) ?_
  have st3 := st2.less (List.sublist_append_left _ _)
  clear st2
  go_wp2_with (with_reducible refine wl_stop (o := ⟨some 10, _, _, _, _, _⟩) ?_)
  refine wl_exec rfl (exec_eqlS rfl rfl rfl HZ.out _) ?_
  go_wp2_with (with_reducible refine wl_stop (o := ⟨some 25, _, _, _, _, _⟩) ?_)
  refine wl_buildL rfl rfl _ built_rp0 ?_
  go_wp2_with (with_reducible refine wl_stop (o := ⟨none, _, _, _, _, _⟩) ?_)
  refine wl_storeS st3 0 rfl rfl rfl rfl rfl (by first | (simp [cw_len]; done) | (simp [RT.len]; done) | (simp [rpL_len]; done) | (simp [cw_len, RT.len]; done) | (simp [cw_len, rpL_len]; done) | simp [cw_len, RT.len, rpL_len]) (by kernel_rfl) (pt_one _ _ _) ?_
  intro w4 st4
  clear st3
  have hr := st4.at 0 rfl
  have hfr := st4.fr
  clear st4
  go_wp2_with fail
  exact bodyPost_ret (results_st2 rfl rfl hr Try.underlying26 rfl (by kernel_rfl) rfl) rfl ⟨by unfold rpV rpL; rw [kN_zero]; rfl, hfr⟩

set_option maxHeartbeats 16000000 in
set_option maxRecDepth 1000000 in
theorem RRead_num2 (s : ByteArray) (hz : decide (s = (mkS (List.replicate 33 0))) = false) (hl : s.size = 33) (hb : ∀ h : 0 < s.size, ((s[0]'h).toNat : Int) = 2) (hn : ∀ wx, Calls Try.prog 11 #[fv mP.M, .string (s.extract 1 s.size)] wx fun e w' => ∃ N : Nat, e = .returned (.tuple #[i4 N, .bool false]) ∧ True ∧ Fr Nob wx w') (w : World) : Calls Try.prog 9 #[.string s] w fun e w' => e = .returned (.tuple #[rpV 0 0 0, .bool false]) ∧ Fr Nob w w' := by
  have HZ := Lib.hid hz
  clear hz
  have hl33 : ((s.size : Int) != 33) = false := by rw [hl]; rfl
  have h0 : (0 : Int) < (s.size : Int) := by omega
  have h00 : 0 < s.size := by omega
  have h1 : (1 : Int) ≤ (s.size : Int) := by omega
  have hb0 := hb h00
  clear hl hb
  have HN := Lib.hid hn
  clear hn
  have st0 := St.start Nob w
  go_enter Try.func9, Try.ntmps9
  go_wp2_with (with_reducible refine wl_stop (o := ⟨some 2, _, _, _, _, _⟩) ?_)
  refine wl_allocS st0 rfl rfl (z := .agg #[.int .u64 0, .int .u64 0, .int .u64 0, .int .u64 0, .int .u64 0, .int .u64 0, .int .u64 0, .int .u64 0, .int .u64 0, .int .u64 0, .int .u64 0, .int .u64 0]) (by kernel_rfl) (cw 12 0) (by rw [cw_zero]; rfl) ?_
  intro g2 w1 st1
  clear st0
  go_wp2_with (with_reducible refine wl_stop (o := ⟨some 8, _, _, _, _, _⟩) ?_)
  refine wl_make rfl rfl Try.underlying34 info_u8 rfl rfl rfl 33 33 (by simp) (by simp) (by omega) (by omega) (by unfold maxLen; omega) ?_
  intro w2 hg2 hf2 hz2
  clear hz2
  have st2 := st1.new hf2 hg2 (Nat.le_refl _)
  clear st1 hg2 hf2
  rw [z_u8] at st2
  go_wp2_with (with_reducible refine wl_stop (o := ⟨some 9, _, _, _, _, _⟩) ?_)
  refine wl_string rfl rfl Try.underlying34 Try.underlying5 Try.underlying9 rfl (l := List.replicate 33 0) (Rd.whole (st2.at 1 rfl)) ?_
  have st3 := st2.less (List.sublist_append_left _ _)
  clear st2
  go_wp2_with (with_reducible refine wl_stop (o := ⟨some 10, _, _, _, _, _⟩) ?_)
  refine wl_exec rfl (exec_eqlS rfl rfl rfl HZ.out _) ?_
  go_wp2_with fail
  refine wp_region_noPanic ?_
  refine wp_region_lad st3 9 [.o 7, .w 1, .w 2, .c 0, .c 3, .w 4, .w 5, .w 6, .j 7] (.r 8 (.m 9 .nil)) (by kernel_rfl) (by kernel_rfl) (fun _ _ _ _ _ h => h) ?_
  clear st3
  refine lad_o rfl rfl rfl z_rn (cw 4 0) rfl ?_
  try simp only [Act.put, List.setIfInBounds_toArray, List.set_cons_zero, List.set_cons_succ]
  iterate 2 (refine lad_w (v := ?_) rfl rfl (fun xq wx => ?_) ?_; rotate_left 1; · (go_simp; with_reducible rfl); try simp only [Act.put, List.setIfInBounds_toArray, List.set_cons_zero, List.set_cons_succ])
  refine lad_call rfl rfl rfl Try.call36 (fun w hS hR => RF_any _) (fun _ => rfl) ?_
  try simp only [Act.put, List.setIfInBounds_toArray, List.set_cons_zero, List.set_cons_succ]
  refine lad_callX (X := Nat) (fun N => .tuple #[i4 N, .bool false]) (fun _ _ => True) (fun _ _ _ _ _ => trivial) rfl rfl rfl Try.call11 (fun w hS hR => HN.out _) (fun _ => rfl) fun N => ?_
  try simp only [Act.put, List.setIfInBounds_toArray, List.set_cons_zero, List.set_cons_succ]
  iterate 3 (refine lad_w (v := ?_) rfl rfl (fun xq wx => ?_) ?_; rotate_left 1; · (go_simp; with_reducible rfl); try simp only [Act.put, List.setIfInBounds_toArray, List.set_cons_zero, List.set_cons_succ])
  refine lad_j List.mem_cons_self fun g4 => ?_
  simp only [upd, reduceIte]
  try simp only [Nat.reduceEqDiff, reduceIte]
  refine lad_end fun xq w4 st4 hR => ?_
  try dsimp only
  clear hR xq
  refine plan_r rfl rfl ?_
  refine wp_storeS st4 1 rfl rfl rfl rfl (by first | (simp [cw_len]; done) | (simp [RT.len]; done) | (simp [rpL_len]; done) | (simp [cw_len, RT.len]; done) | (simp [cw_len, rpL_len]; done) | simp [cw_len, RT.len, rpL_len]) (by kernel_rfl) (cw_one _ _) ?_
  intro w5 st5
  repeat (first | simp only [List.cons_append] at st5 | simp only [List.nil_append] at st5 | simp only [List.set_cons_succ] at st5 | simp only [List.set_cons_zero] at st5)
  clear st4
  refine ⟨by first | exact st5 | exact St.less st5 (by simp), ?_⟩
  try simp only [Act.put]
  refine plan_m rfl rfl ?_
  go_simp
  try simp only [Act.put, List.setIfInBounds_toArray, List.set_cons_zero, List.set_cons_succ]
  refine plan_end ?_
  refine NoPanic.normal ?_
  go_wp2_with (with_reducible refine wl_stop (o := ⟨some 35, _, _, _, _, _⟩) ?_)
  refine wl_buildL rfl rfl _ built_rp0 ?_
  go_wp2_with (with_reducible refine wl_stop (o := ⟨none, _, _, _, _, _⟩) ?_)
  refine wl_storeS st5 0 rfl rfl rfl rfl rfl (by first | (simp [cw_len]; done) | (simp [RT.len]; done) | (simp [rpL_len]; done) | (simp [cw_len, RT.len]; done) | (simp [cw_len, rpL_len]; done) | simp [cw_len, RT.len, rpL_len]) (by kernel_rfl) (pt_one _ _ _) ?_
  intro w6 st6
  clear st5
  have hr := st6.at 0 rfl
  have hfr := st6.fr
  clear st6
  go_wp2_with fail
  exact bodyPost_ret (results_st2 rfl rfl hr Try.underlying26 rfl (by kernel_rfl) rfl) rfl ⟨by unfold rpV rpL; rw [kN_zero]; rfl, hfr⟩

set_option maxHeartbeats 16000000 in
set_option maxRecDepth 1000000 in
theorem RRead_pt2 (s : ByteArray) (hz : decide (s = (mkS (List.replicate 33 0))) = false) (hl : s.size = 33) (hb : ∀ h : 0 < s.size, ((s[0]'h).toNat : Int) = 2) (X Y : K) (b : Bool) (hn : ∀ wx, Calls Try.prog 11 #[fv mP.M, .string (s.extract 1 s.size)] wx fun e w' => e = .returned (.tuple #[i4 (kN X), .bool true]) ∧ Fr Nob wx w') (ha : ∀ wx, Calls Try.prog 37 #[i4 (kN X)] wx fun e w' => e = .returned (.tuple #[rpV X Y 1, .bool b]) ∧ Fr Nob wx w') (w : World) : Calls Try.prog 9 #[.string s] w fun e w' => e = .returned (.tuple #[rpV X Y 1, .bool b]) ∧ Fr Nob w w' := by
  have HZ := Lib.hid hz
  clear hz
  have hl33 : ((s.size : Int) != 33) = false := by rw [hl]; rfl
  have h0 : (0 : Int) < (s.size : Int) := by omega
  have h00 : 0 < s.size := by omega
  have h1 : (1 : Int) ≤ (s.size : Int) := by omega
  have hb0 := hb h00
  clear hl hb
  have HN := Lib.hid hn
  unfold rpV rpL at ha
  have HAT := Lib.hid ha
  clear hn ha
  unfold rpV rpL
  have st0 := St.start Nob w
  go_enter Try.func9, Try.ntmps9
  go_wp2_with (with_reducible refine wl_stop (o := ⟨some 2, _, _, _, _, _⟩) ?_)
  refine wl_allocS st0 rfl rfl (z := .agg #[.int .u64 0, .int .u64 0, .int .u64 0, .int .u64 0, .int .u64 0, .int .u64 0, .int .u64 0, .int .u64 0, .int .u64 0, .int .u64 0, .int .u64 0, .int .u64 0]) (by kernel_rfl) (cw 12 0) (by rw [cw_zero]; rfl) ?_
  intro g2 w1 st1
  clear st0
  go_wp2_with (with_reducible refine wl_stop (o := ⟨some 8, _, _, _, _, _⟩) ?_)
  refine wl_make rfl rfl Try.underlying34 info_u8 rfl rfl rfl 33 33 (by simp) (by simp) (by omega) (by omega) (by unfold maxLen; omega) ?_
  intro w2 hg2 hf2 hz2
  clear hz2
  have st2 := st1.new hf2 hg2 (Nat.le_refl _)
  clear st1 hg2 hf2
  rw [z_u8] at st2
  go_wp2_with (with_reducible refine wl_stop (o := ⟨some 9, _, _, _, _, _⟩) ?_)
  refine wl_string rfl rfl Try.underlying34 Try.underlying5 Try.underlying9 rfl (l := List.replicate 33 0) (Rd.whole (st2.at 1 rfl)) ?_
  have st3 := st2.less (List.sublist_append_left _ _)
  clear st2
  go_wp2_with (with_reducible refine wl_stop (o := ⟨some 10, _, _, _, _, _⟩) ?_)
  refine wl_exec rfl (exec_eqlS rfl rfl rfl HZ.out _) ?_
  go_wp2_with fail
  refine wp_region_noPanic ?_
  refine wp_region_lad st3 9 [.o 7, .w 1, .w 2, .c 0, .c 3, .w 4, .w 5, .w 6, .j 7] (.r 8 (.m 9 .nil)) (by kernel_rfl) (by kernel_rfl) (fun _ _ _ _ _ h => h) ?_
  clear st3
  refine lad_o rfl rfl rfl z_rn (cw 4 0) rfl ?_
  try simp only [Act.put, List.setIfInBounds_toArray, List.set_cons_zero, List.set_cons_succ]
  iterate 2 (refine lad_w (v := ?_) rfl rfl (fun xq wx => ?_) ?_; rotate_left 1; · (go_simp; with_reducible rfl); try simp only [Act.put, List.setIfInBounds_toArray, List.set_cons_zero, List.set_cons_succ])
  refine lad_call rfl rfl rfl Try.call36 (fun w hS hR => RF_any _) (fun _ => rfl) ?_
  try simp only [Act.put, List.setIfInBounds_toArray, List.set_cons_zero, List.set_cons_succ]
  refine lad_call rfl rfl rfl Try.call11 (fun w hS hR => HN.out _) (fun _ => rfl) ?_
  try simp only [Act.put, List.setIfInBounds_toArray, List.set_cons_zero, List.set_cons_succ]
  iterate 3 (refine lad_w (v := ?_) rfl rfl (fun xq wx => ?_) ?_; rotate_left 1; · (go_simp; with_reducible rfl); try simp only [Act.put, List.setIfInBounds_toArray, List.set_cons_zero, List.set_cons_succ])
  refine lad_j List.mem_cons_self fun g4 => ?_
  simp only [upd, reduceIte]
  try simp only [Nat.reduceEqDiff, reduceIte]
  refine lad_end fun xq w4 st4 hR => ?_
  try dsimp only
  clear hR xq
  refine plan_r rfl rfl ?_
  refine wp_storeS st4 1 rfl rfl rfl rfl (by first | (simp [cw_len]; done) | (simp [RT.len]; done) | (simp [rpL_len]; done) | (simp [cw_len, RT.len]; done) | (simp [cw_len, rpL_len]; done) | simp [cw_len, RT.len, rpL_len]) (by kernel_rfl) (cw_one _ _) ?_
  intro w5 st5
  repeat (first | simp only [List.cons_append] at st5 | simp only [List.nil_append] at st5 | simp only [List.set_cons_succ] at st5 | simp only [List.set_cons_zero] at st5)
  clear st4
  refine ⟨by first | exact st5 | exact St.less st5 (by simp), ?_⟩
  try simp only [Act.put]
  refine plan_m rfl rfl ?_
  go_simp
  try simp only [Act.put, List.setIfInBounds_toArray, List.set_cons_zero, List.set_cons_succ]
  refine plan_end ?_
  refine NoPanic.normal ?_
  go_wp2_with (with_reducible refine wl_stop (o := ⟨some 37, _, _, _, _, _⟩) ?_)
  refine wl_loadS st5 1 rfl rfl rfl Try.underlying24 rfl (by kernel_rfl) ?_
  go_wp2_with fail
  refine (HAT.out _).mono ?_
  rintro e' w6 ⟨rfl, hf6⟩
  have st6 := st5.keep hf6
  clear st5 hf6
  go_wp2_with (with_reducible refine wl_stop (o := ⟨some 6, _, _, _, _, _⟩) ?_)
  refine wl_allocS st6 rfl rfl (z := .agg #[.int .u64 0, .int .u64 0, .int .u64 0, .int .u64 0, .int .u64 0, .int .u64 0, .int .u64 0, .int .u64 0, .int .u64 0, .int .u64 0, .int .u64 0, .int .u64 0]) (by kernel_rfl) (cw 12 0) (by rw [cw_zero]; rfl) ?_
  intro g6 w7 st7
  clear st6
  go_wp2_with (with_reducible refine wl_stop (o := ⟨none, _, _, _, _, _⟩) ?_)
  refine wl_storeS st7 2 rfl rfl rfl rfl rfl (by first | (simp [cw_len]; done) | (simp [RT.len]; done) | (simp [rpL_len]; done) | (simp [cw_len, RT.len]; done) | (simp [cw_len, rpL_len]; done) | simp [cw_len, RT.len, rpL_len]) (by kernel_rfl) (pt_one _ _ _) ?_
  intro w8 st8
  clear st7
  go_wp2_with (with_reducible refine wl_stop (o := ⟨some 46, _, _, _, _, _⟩) ?_)
  refine wl_loadSt st8 2 rfl rfl rfl Try.underlying26 rfl rfl (by kernel_rfl) ?_
  go_wp2_with (with_reducible refine wl_stop (o := ⟨none, _, _, _, _, _⟩) ?_)
  refine wl_storeS st8 0 rfl rfl rfl rfl rfl (by first | (simp [cw_len]; done) | (simp [RT.len]; done) | (simp [rpL_len]; done) | (simp [cw_len, RT.len]; done) | (simp [cw_len, rpL_len]; done) | simp [cw_len, RT.len, rpL_len]) (by kernel_rfl) (pt_one _ _ _) ?_
  intro w9 st9
  clear st8
  have hr := st9.at 0 rfl
  have hfr := st9.fr
  clear st9
  go_wp2_with fail
  exact bodyPost_ret (results_st2 rfl rfl hr Try.underlying26 rfl (by kernel_rfl) rfl) rfl ⟨rfl, hfr⟩

theorem RNeg_u (x y z : K) (w : World) : Calls Try.prog 18 #[.agg (cw 4 (kN x) ++ (cw 4 (kN y) ++ cw 4 (kN z))).toArray] w fun e w' => e = .returned (.agg (cw 4 (kN x) ++ (cw 4 (kN (-y)) ++ cw 4 (kN z))).toArray) ∧ Fr Nob w w' := RNeg_any x y z _ rfl w

set_option maxHeartbeats 16000000 in
set_option maxRecDepth 1000000 in
theorem RRead_num3 (s : ByteArray) (hz : decide (s = (mkS (List.replicate 33 0))) = false) (hl : s.size = 33) (hb : ∀ h : 0 < s.size, ((s[0]'h).toNat : Int) = 3) (hn : ∀ wx, Calls Try.prog 11 #[fv mP.M, .string (s.extract 1 s.size)] wx fun e w' => ∃ N : Nat, e = .returned (.tuple #[i4 N, .bool false]) ∧ True ∧ Fr Nob wx w') (w : World) : Calls Try.prog 9 #[.string s] w fun e w' => e = .returned (.tuple #[rpV 0 0 0, .bool false]) ∧ Fr Nob w w' := by
  have HZ := Lib.hid hz
  clear hz
  have hl33 : ((s.size : Int) != 33) = false := by rw [hl]; rfl
  have h0 : (0 : Int) < (s.size : Int) := by omega
  have h00 : 0 < s.size := by omega
  have h1 : (1 : Int) ≤ (s.size : Int) := by omega
  have hb0 := hb h00
  clear hl hb
  have HN := Lib.hid hn
  clear hn
  have st0 := St.start Nob w
  go_enter Try.func9, Try.ntmps9
  go_wp2_with (with_reducible refine wl_stop (o := ⟨some 2, _, _, _, _, _⟩) ?_)
  refine wl_allocS st0 rfl rfl (z := .agg #[.int .u64 0, .int .u64 0, .int .u64 0, .int .u64 0, .int .u64 0, .int .u64 0, .int .u64 0, .int .u64 0, .int .u64 0, .int .u64 0, .int .u64 0, .int .u64 0]) (by kernel_rfl) (cw 12 0) (by rw [cw_zero]; rfl) ?_
  intro g2 w1 st1
  clear st0
  go_wp2_with (with_reducible refine wl_stop (o := ⟨some 8, _, _, _, _, _⟩) ?_)
  refine wl_make rfl rfl Try.underlying34 info_u8 rfl rfl rfl 33 33 (by simp) (by simp) (by omega) (by omega) (by unfold maxLen; omega) ?_
  intro w2 hg2 hf2 hz2
  clear hz2
  have st2 := st1.new hf2 hg2 (Nat.le_refl _)
  clear st1 hg2 hf2
  rw [z_u8] at st2
  go_wp2_with (with_reducible refine wl_stop (o := ⟨some 9, _, _, _, _, _⟩) ?_)
  refine wl_string rfl rfl Try.underlying34 Try.underlying5 Try.underlying9 rfl (l := List.replicate 33 0) (Rd.whole (st2.at 1 rfl)) ?_
  have st3 := st2.less (List.sublist_append_left _ _)
  clear st2
  go_wp2_with (with_reducible refine wl_stop (o := ⟨some 10, _, _, _, _, _⟩) ?_)
  refine wl_exec rfl (exec_eqlS rfl rfl rfl HZ.out _) ?_
  go_wp2_with fail
  refine wp_region_noPanic ?_
  refine wp_region_lad st3 9 [.o 7, .w 1, .w 2, .c 0, .c 3, .w 4, .w 5, .w 6, .j 7] (.r 8 (.m 9 .nil)) (by kernel_rfl) (by kernel_rfl) (fun _ _ _ _ _ h => h) ?_
  clear st3
  refine lad_o rfl rfl rfl z_rn (cw 4 0) rfl ?_
  try simp only [Act.put, List.setIfInBounds_toArray, List.set_cons_zero, List.set_cons_succ]
  iterate 2 (refine lad_w (v := ?_) rfl rfl (fun xq wx => ?_) ?_; rotate_left 1; · (go_simp; with_reducible rfl); try simp only [Act.put, List.setIfInBounds_toArray, List.set_cons_zero, List.set_cons_succ])
  refine lad_call rfl rfl rfl Try.call36 (fun w hS hR => RF_any _) (fun _ => rfl) ?_
  try simp only [Act.put, List.setIfInBounds_toArray, List.set_cons_zero, List.set_cons_succ]
  refine lad_callX (X := Nat) (fun N => .tuple #[i4 N, .bool false]) (fun _ _ => True) (fun _ _ _ _ _ => trivial) rfl rfl rfl Try.call11 (fun w hS hR => HN.out _) (fun _ => rfl) fun N => ?_
  try simp only [Act.put, List.setIfInBounds_toArray, List.set_cons_zero, List.set_cons_succ]
  iterate 3 (refine lad_w (v := ?_) rfl rfl (fun xq wx => ?_) ?_; rotate_left 1; · (go_simp; with_reducible rfl); try simp only [Act.put, List.setIfInBounds_toArray, List.set_cons_zero, List.set_cons_succ])
  refine lad_j List.mem_cons_self fun g4 => ?_
  simp only [upd, reduceIte]
  try simp only [Nat.reduceEqDiff, reduceIte]
  refine lad_end fun xq w4 st4 hR => ?_
  try dsimp only
  clear hR xq
  refine plan_r rfl rfl ?_
  refine wp_storeS st4 1 rfl rfl rfl rfl (by first | (simp [cw_len]; done) | (simp [RT.len]; done) | (simp [rpL_len]; done) | (simp [cw_len, RT.len]; done) | (simp [cw_len, rpL_len]; done) | simp [cw_len, RT.len, rpL_len]) (by kernel_rfl) (cw_one _ _) ?_
  intro w5 st5
  repeat (first | simp only [List.cons_append] at st5 | simp only [List.nil_append] at st5 | simp only [List.set_cons_succ] at st5 | simp only [List.set_cons_zero] at st5)
  clear st4
  refine ⟨by first | exact st5 | exact St.less st5 (by simp), ?_⟩
  try simp only [Act.put]
  refine plan_m rfl rfl ?_
  go_simp
  try simp only [Act.put, List.setIfInBounds_toArray, List.set_cons_zero, List.set_cons_succ]
  refine plan_end ?_
  refine NoPanic.normal ?_
  go_wp2_with (with_reducible refine wl_stop (o := ⟨some 35, _, _, _, _, _⟩) ?_)
  refine wl_buildL rfl rfl _ built_rp0 ?_
  go_wp2_with (with_reducible refine wl_stop (o := ⟨none, _, _, _, _, _⟩) ?_)
  refine wl_storeS st5 0 rfl rfl rfl rfl rfl (by first | (simp [cw_len]; done) | (simp [RT.len]; done) | (simp [rpL_len]; done) | (simp [cw_len, RT.len]; done) | (simp [cw_len, rpL_len]; done) | simp [cw_len, RT.len, rpL_len]) (by kernel_rfl) (pt_one _ _ _) ?_
  intro w6 st6
  clear st5
  have hr := st6.at 0 rfl
  have hfr := st6.fr
  clear st6
  go_wp2_with fail
  exact bodyPost_ret (results_st2 rfl rfl hr Try.underlying26 rfl (by kernel_rfl) rfl) rfl ⟨by unfold rpV rpL; rw [kN_zero]; rfl, hfr⟩

set_option maxHeartbeats 16000000 in
set_option maxRecDepth 1000000 in
theorem RRead_pt3 (s : ByteArray) (hz : decide (s = (mkS (List.replicate 33 0))) = false) (hl : s.size = 33) (hb : ∀ h : 0 < s.size, ((s[0]'h).toNat : Int) = 3) (X Y : K) (b : Bool) (hn : ∀ wx, Calls Try.prog 11 #[fv mP.M, .string (s.extract 1 s.size)] wx fun e w' => e = .returned (.tuple #[i4 (kN X), .bool true]) ∧ Fr Nob wx w') (ha : ∀ wx, Calls Try.prog 37 #[i4 (kN X)] wx fun e w' => e = .returned (.tuple #[rpV X Y 1, .bool b]) ∧ Fr Nob wx w') (w : World) : Calls Try.prog 9 #[.string s] w fun e w' => e = .returned (.tuple #[rpV X (-Y) 1, .bool b]) ∧ Fr Nob w w' := by
  have HZ := Lib.hid hz
  clear hz
  have hl33 : ((s.size : Int) != 33) = false := by rw [hl]; rfl
  have h0 : (0 : Int) < (s.size : Int) := by omega
  have h00 : 0 < s.size := by omega
  have h1 : (1 : Int) ≤ (s.size : Int) := by omega
  have hb0 := hb h00
  clear hl hb
  have HN := Lib.hid hn
  unfold rpV rpL at ha
  have HAT := Lib.hid ha
  clear hn ha
  unfold rpV rpL
  have st0 := St.start Nob w
  go_enter Try.func9, Try.ntmps9
  go_wp2_with (with_reducible refine wl_stop (o := ⟨some 2, _, _, _, _, _⟩) ?_)
  refine wl_allocS st0 rfl rfl (z := .agg #[.int .u64 0, .int .u64 0, .int .u64 0, .int .u64 0, .int .u64 0, .int .u64 0, .int .u64 0, .int .u64 0, .int .u64 0, .int .u64 0, .int .u64 0, .int .u64 0]) (by kernel_rfl) (cw 12 0) (by rw [cw_zero]; rfl) ?_
  intro g2 w1 st1
  clear st0
  go_wp2_with (with_reducible refine wl_stop (o := ⟨some 8, _, _, _, _, _⟩) ?_)
  refine wl_make rfl rfl Try.underlying34 info_u8 rfl rfl rfl 33 33 (by simp) (by simp) (by omega) (by omega) (by unfold maxLen; omega) ?_
  intro w2 hg2 hf2 hz2
  clear hz2
  have st2 := st1.new hf2 hg2 (Nat.le_refl _)
  clear st1 hg2 hf2
  rw [z_u8] at st2
  go_wp2_with (with_reducible refine wl_stop (o := ⟨some 9, _, _, _, _, _⟩) ?_)
  refine wl_string rfl rfl Try.underlying34 Try.underlying5 Try.underlying9 rfl (l := List.replicate 33 0) (Rd.whole (st2.at 1 rfl)) ?_
  have st3 := st2.less (List.sublist_append_left _ _)
  clear st2
  go_wp2_with (with_reducible refine wl_stop (o := ⟨some 10, _, _, _, _, _⟩) ?_)
  refine wl_exec rfl (exec_eqlS rfl rfl rfl HZ.out _) ?_
  go_wp2_with fail
  refine wp_region_noPanic ?_
  refine wp_region_lad st3 9 [.o 7, .w 1, .w 2, .c 0, .c 3, .w 4, .w 5, .w 6, .j 7] (.r 8 (.m 9 .nil)) (by kernel_rfl) (by kernel_rfl) (fun _ _ _ _ _ h => h) ?_
  clear st3
  refine lad_o rfl rfl rfl z_rn (cw 4 0) rfl ?_
  try simp only [Act.put, List.setIfInBounds_toArray, List.set_cons_zero, List.set_cons_succ]
  iterate 2 (refine lad_w (v := ?_) rfl rfl (fun xq wx => ?_) ?_; rotate_left 1; · (go_simp; with_reducible rfl); try simp only [Act.put, List.setIfInBounds_toArray, List.set_cons_zero, List.set_cons_succ])
  refine lad_call rfl rfl rfl Try.call36 (fun w hS hR => RF_any _) (fun _ => rfl) ?_
  try simp only [Act.put, List.setIfInBounds_toArray, List.set_cons_zero, List.set_cons_succ]
  refine lad_call rfl rfl rfl Try.call11 (fun w hS hR => HN.out _) (fun _ => rfl) ?_
  try simp only [Act.put, List.setIfInBounds_toArray, List.set_cons_zero, List.set_cons_succ]
  iterate 3 (refine lad_w (v := ?_) rfl rfl (fun xq wx => ?_) ?_; rotate_left 1; · (go_simp; with_reducible rfl); try simp only [Act.put, List.setIfInBounds_toArray, List.set_cons_zero, List.set_cons_succ])
  refine lad_j List.mem_cons_self fun g4 => ?_
  simp only [upd, reduceIte]
  try simp only [Nat.reduceEqDiff, reduceIte]
  refine lad_end fun xq w4 st4 hR => ?_
  try dsimp only
  clear hR xq
  refine plan_r rfl rfl ?_
  refine wp_storeS st4 1 rfl rfl rfl rfl (by first | (simp [cw_len]; done) | (simp [RT.len]; done) | (simp [rpL_len]; done) | (simp [cw_len, RT.len]; done) | (simp [cw_len, rpL_len]; done) | simp [cw_len, RT.len, rpL_len]) (by kernel_rfl) (cw_one _ _) ?_
  intro w5 st5
  repeat (first | simp only [List.cons_append] at st5 | simp only [List.nil_append] at st5 | simp only [List.set_cons_succ] at st5 | simp only [List.set_cons_zero] at st5)
  clear st4
  refine ⟨by first | exact st5 | exact St.less st5 (by simp), ?_⟩
  try simp only [Act.put]
  refine plan_m rfl rfl ?_
  go_simp
  try simp only [Act.put, List.setIfInBounds_toArray, List.set_cons_zero, List.set_cons_succ]
  refine plan_end ?_
  refine NoPanic.normal ?_
  go_wp2_with (with_reducible refine wl_stop (o := ⟨some 37, _, _, _, _, _⟩) ?_)
  refine wl_loadS st5 1 rfl rfl rfl Try.underlying24 rfl (by kernel_rfl) ?_
  go_wp2_with fail
  refine (HAT.out _).mono ?_
  rintro e' w6 ⟨rfl, hf6⟩
  have st6 := st5.keep hf6
  clear st5 hf6
  go_wp2_with (with_reducible refine wl_stop (o := ⟨some 6, _, _, _, _, _⟩) ?_)
  refine wl_allocS st6 rfl rfl (z := .agg #[.int .u64 0, .int .u64 0, .int .u64 0, .int .u64 0, .int .u64 0, .int .u64 0, .int .u64 0, .int .u64 0, .int .u64 0, .int .u64 0, .int .u64 0, .int .u64 0]) (by kernel_rfl) (cw 12 0) (by rw [cw_zero]; rfl) ?_
  intro g6 w7 st7
  clear st6
  go_wp2_with (with_reducible refine wl_stop (o := ⟨none, _, _, _, _, _⟩) ?_)
  refine wl_storeS st7 2 rfl rfl rfl rfl rfl (by first | (simp [cw_len]; done) | (simp [RT.len]; done) | (simp [rpL_len]; done) | (simp [cw_len, RT.len]; done) | (simp [cw_len, rpL_len]; done) | simp [cw_len, RT.len, rpL_len]) (by kernel_rfl) (pt_one _ _ _) ?_
  intro w8 st8
  clear st7
  go_wp2_with (with_reducible refine wl_stop (o := ⟨some 44, _, _, _, _, _⟩) ?_)
  refine wl_loadSt st8 2 rfl rfl rfl Try.underlying26 rfl rfl (by kernel_rfl) ?_
  go_wp2_with fail
  refine (RNeg_u X Y 1 _).mono ?_
  rintro e' w9 ⟨rfl, hf9⟩
  have st9 := st8.keep hf9
  clear st8 hf9
  go_wp2_with (with_reducible refine wl_stop (o := ⟨none, _, _, _, _, _⟩) ?_)
  refine wl_storeS st9 2 rfl rfl rfl rfl rfl (by first | (simp [cw_len]; done) | (simp [RT.len]; done) | (simp [rpL_len]; done) | (simp [cw_len, RT.len]; done) | (simp [cw_len, rpL_len]; done) | simp [cw_len, RT.len, rpL_len]) (by kernel_rfl) (pt_one _ _ _) ?_
  intro w10 st10
  clear st9
  go_wp2_with (with_reducible refine wl_stop (o := ⟨some 46, _, _, _, _, _⟩) ?_)
  refine wl_loadSt st10 2 rfl rfl rfl Try.underlying26 rfl rfl (by kernel_rfl) ?_
  go_wp2_with (with_reducible refine wl_stop (o := ⟨none, _, _, _, _, _⟩) ?_)
  refine wl_storeS st10 0 rfl rfl rfl rfl rfl (by first | (simp [cw_len]; done) | (simp [RT.len]; done) | (simp [rpL_len]; done) | (simp [cw_len, RT.len]; done) | (simp [cw_len, rpL_len]; done) | simp [cw_len, RT.len, rpL_len]) (by kernel_rfl) (pt_one _ _ _) ?_
  intro w11 st11
  clear st10
  have hr := st11.at 0 rfl
  have hfr := st11.fr
  clear st11
  go_wp2_with fail
  exact bodyPost_ret (results_st2 rfl rfl hr Try.underlying26 rfl (by kernel_rfl) rfl) rfl ⟨rfl, hfr⟩
end Go.Proofs.Ytdbgddngapminaa

/- The reference's Read, for all bytes; its Base, its Same. -/
namespace Go.Proofs.Ytdbgddngapminaa
open Go.RowKit Go.Mv Mvp Mvq
theorem beN_foldl (l : List UInt8) (a : Nat) : l.foldl (fun a x => a * 256 + x.toNat) a = a * 256 ^ l.length + beN l := by
  unfold beN
  induction l generalizing a with
  | nil => simp
  | cons x l ih =>
    rw [List.foldl_cons, List.foldl_cons, ih, ih (0 * 256 + x.toNat), List.length_cons, Nat.pow_succ]
    rw [Nat.zero_mul, Nat.zero_add, Nat.add_mul, Nat.mul_assoc, Nat.mul_comm 256]
    omega
theorem beN_cons (x : UInt8) (l : List UInt8) : beN (x :: l) = x.toNat * 256 ^ l.length + beN l := by
  have h := beN_foldl l (0 * 256 + x.toNat)
  rw [Nat.zero_mul, Nat.zero_add] at h
  show List.foldl _ 0 (x :: l) = _
  rw [List.foldl_cons, Nat.zero_mul, Nat.zero_add]
  exact h
theorem beN_zero : ∀ l : List UInt8, beN l = 0 → l = List.replicate l.length 0
  | [], _ => rfl
  | x :: l, h => by
    rw [beN_cons] at h
    have h1 : x.toNat * 256 ^ l.length = 0 := by omega
    have h2 : beN l = 0 := by omega
    have hx : x = 0 := by
      rcases Nat.mul_eq_zero.1 h1 with h | h
      · exact UInt8.toNat_inj.1 (by rw [h]; rfl)
      · exact absurd h (Nat.pos_iff_ne_zero.1 (Nat.pow_pos (by decide)))
    have ih := beN_zero l h2
    rw [List.length_cons, List.replicate_succ, ← ih, hx]
theorem mkS_inj {l m : List UInt8} (h : mkS l = mkS m) : l = m := by
  have := congrArg (fun s : ByteArray => s.data.toList) h
  simpa [mkS] using this
theorem mkS_at0 (l : List UInt8) (q : Nat) (h : (l.getD 0 0).toNat = q) (h0 : 0 < (mkS l).size) : (((mkS l)[0]'h0).toNat : Int) = (q : Int) := by
  have h1 : 0 < l.length := by rwa [mkS_size] at h0
  have : ((mkS l)[0]'h0) = l.getD 0 0 := by
    show (mkS l).data[0] = _
    simp [mkS, List.getD_eq_getElem?_getD, h1]
  rw [this, h]
theorem mkS_tail (l : List UInt8) : ((mkS l).extract 1 (mkS l).size).data.toList = l.drop 1 := by
  rw [mkS_size]
  simp [mkS]
  exact List.take_of_length_le (by simp)
theorem rdOk_zeros : rdOk (List.replicate 33 0) = true := by decide
attribute [local irreducible] rtV rtOk rpL crvN beN be32
theorem num_tail (l : List UInt8) (h33 : l.length = 33) : numB mP ((mkS l).extract 1 (mkS l).size).data.toList = decide (tlN l < fP) := by
  rw [mkS_tail]
  unfold numB tlN
  rw [List.length_drop, h33, mPM]
  rfl
theorem RNum_t (l : List UInt8) (h33 : l.length = 33) (hlt : tlN l < fP) (w : World) :
    Calls Try.prog 11 #[fv mP.M, .string ((mkS l).extract 1 (mkS l).size)] w fun e w' => e = .returned (.tuple #[i4 (kN (kc (tlN l))), .bool true]) ∧ Fr Nob w w' := by
  have h := Number_t mP mP_ok.lt ((mkS l).extract 1 (mkS l).size) w (by rw [num_tail l h33]; simpa using hlt)
  rw [mkS_tail] at h
  rw [kN_kc, Nat.mod_eq_of_lt hlt]
  exact h
theorem RNum_f (l : List UInt8) (h33 : l.length = 33) (hlt : ¬ tlN l < fP) (w : World) :
    Calls Try.prog 11 #[fv mP.M, .string ((mkS l).extract 1 (mkS l).size)] w fun e w' => ∃ N : Nat, e = .returned (.tuple #[i4 N, .bool false]) ∧ True ∧ Fr Nob w w' :=
  (Number_f mP mP_ok.lt _ w (by rw [num_tail l h33]; simpa using hlt)).mono fun e w' ⟨N, h1, h2⟩ => ⟨N, h1, trivial, h2⟩
theorem kN_crv (n : Nat) : kN (kc n * kc n * kc n + 7) = crvN n % fP := by rw [← crvN_kc, kN_kc]
theorem RAt_t (n : Nat) (hr : rtOk fP (crvN n) = true) (w : World) : Calls Try.prog 37 #[i4 (kN (kc n))] w fun e w' => e = .returned (.tuple #[rpV (kc n) (kc (rtV fP (crvN n))) 1, .bool true]) ∧ Fr Nob w w' := by
  have h := Rat_t (kc n) _ _ _ rfl rfl rfl (by rw [kN_crv, rtOk_mod]; exact hr) w
  rw [kN_crv, rtV_mod] at h
  exact h
theorem RAt_f (n : Nat) (hr : rtOk fP (crvN n) = false) (w : World) : Calls Try.prog 37 #[i4 (kN (kc n))] w fun e w' => e = .returned (.tuple #[rpV (kc n) 0 1, .bool false]) ∧ Fr Nob w w' :=
  Rat_f (kc n) _ _ _ rfl rfl rfl (by rw [kN_crv, rtOk_mod]; exact hr) w
theorem ne_zeros {l : List UInt8} (h : l ≠ List.replicate 33 0) : decide (mkS l = mkS (List.replicate 33 0)) = false := by
  simpa using fun e => h (mkS_inj e)
theorem zeros_of {l : List UInt8} (h33 : l.length = 33) (h0 : l.getD 0 0 = 0) (ht : tlN l = 0) : l = List.replicate 33 0 := by
  cases l with
  | nil => cases h33
  | cons x l =>
    have hx : x = 0 := h0
    have hl := beN_zero l ht
    rw [List.length_cons] at h33
    rw [hx, hl, show l.length = 32 by omega]
    rfl
theorem head_ne {l : List UInt8} (q : UInt8) (hq : q ≠ 0) (h : l.getD 0 0 = q) : l ≠ List.replicate 33 0 := by
  rintro rfl
  exact hq h.symm
theorem RRead_ex (l : List UInt8) (h : rdOk l = true) : ∃ r : RT, r.pt = rdPt l ∧ ∀ w : World, Calls Try.prog 9 #[.string (mkS l)] w fun e w' => e = .returned (.tuple #[.agg r.L.toArray, .bool true]) ∧ Fr Nob w w' := by
  have hon := rd_on h
  unfold rdOk at h
  unfold rdPt at *
  simp only [Bool.and_eq_true, decide_eq_true_eq] at h
  obtain ⟨h33, h⟩ := h
  by_cases h0 : l.getD 0 0 = 0
  · rw [if_pos h0] at h
    refine ⟨noR, by rw [if_pos h0, noR_pt], fun w => ?_⟩
    exact RRead_zero (mkS l) (by rw [zeros_of h33 h0 (by simpa using h)]; simp) w
  · rw [if_neg h0] at h hon
    simp only [Bool.and_eq_true, decide_eq_true_eq] at h
    obtain ⟨h23, hlt, hr⟩ := h
    rcases h23 with h2 | h3
    · have h3 : ¬ l.getD 0 0 = 3 := by rw [h2]; decide
      rw [if_neg h3] at hon
      refine ⟨affR _ _ hon, by rw [if_neg h0, if_neg h3, affR_pt], fun w => ?_⟩
      exact RRead_pt2 (mkS l) (ne_zeros (head_ne 2 (by decide) h2)) (by rw [mkS_size, h33]) (fun h => mkS_at0 l 2 (by rw [h2]; rfl) h) _ _ true (RNum_t l h33 hlt) (RAt_t _ hr) w
    · rw [if_pos h3] at hon
      refine ⟨affR _ _ hon, by rw [if_neg h0, if_pos h3, affR_pt], fun w => ?_⟩
      exact RRead_pt3 (mkS l) (ne_zeros (head_ne 3 (by decide) h3)) (by rw [mkS_size, h33]) (fun h => mkS_at0 l 3 (by rw [h3]; rfl) h) _ _ true (RNum_t l h33 hlt) (RAt_t _ hr) w
open Classical in
noncomputable def rdR (l : List UInt8) : RT := if h : rdOk l = true then Classical.choose (RRead_ex l h) else noR
theorem rdR_pt {l : List UInt8} (h : rdOk l = true) : (rdR l).pt = rdPt l := by unfold rdR; rw [dif_pos h]; exact (Classical.choose_spec (RRead_ex l h)).1
theorem RRead_tl (l : List UInt8) (h : rdOk l = true) (w : World) : Calls Try.prog 9 #[.string (mkS l)] w fun e w' => e = .returned (.tuple #[.agg (rdR l).L.toArray, .bool true]) ∧ Fr Nob w w' := by
  unfold rdR; rw [dif_pos h]; exact (Classical.choose_spec (RRead_ex l h)).2 w
theorem RRead_t (s : ByteArray) (h : rdOk s.data.toList = true) (w : World) : Calls Try.prog 9 #[.string s] w fun e w' => e = .returned (.tuple #[.agg (rdR s.data.toList).L.toArray, .bool true]) ∧ Fr Nob w w' := by
  have := RRead_tl s.data.toList h w
  rwa [mkS_data] at this
theorem RRead_fl (l : List UInt8) (h : rdOk l = false) (w : World) : Calls Try.prog 9 #[.string (mkS l)] w fun e w' => ∃ X Y Z : K, e = .returned (.tuple #[rpV X Y Z, .bool false]) ∧ Fr Nob w w' := by
  by_cases h33 : l.length = 33
  · by_cases h0 : l.getD 0 0 = 0
    · have hz : l ≠ List.replicate 33 0 := by
        rintro rfl
        rw [rdOk_zeros] at h
        cases h
      exact (RRead_head (mkS l) (ne_zeros hz) (by rw [mkS_size, h33]) 0 (fun h => mkS_at0 l 0 (by rw [h0]; rfl) h) rfl rfl w).mono fun e w' k => ⟨0, 0, 0, k.1, k.2⟩
    · by_cases h23 : l.getD 0 0 = 2 ∨ l.getD 0 0 = 3
      · by_cases hlt : tlN l < fP
        · have hr : rtOk fP (crvN (tlN l)) = false := by
            unfold rdOk at h
            rw [if_neg h0, decide_eq_true h33, decide_eq_true h23, decide_eq_true hlt] at h
            simpa using h
          rcases h23 with h2 | h3
          · exact (RRead_pt2 (mkS l) (ne_zeros (head_ne 2 (by decide) h2)) (by rw [mkS_size, h33]) (fun h => mkS_at0 l 2 (by rw [h2]; rfl) h) _ _ false (RNum_t l h33 hlt) (RAt_f _ hr) w).mono fun e w' k => ⟨_, _, _, k.1, k.2⟩
          · exact (RRead_pt3 (mkS l) (ne_zeros (head_ne 3 (by decide) h3)) (by rw [mkS_size, h33]) (fun h => mkS_at0 l 3 (by rw [h3]; rfl) h) _ _ false (RNum_t l h33 hlt) (RAt_f _ hr) w).mono fun e w' k => ⟨_, _, _, k.1, k.2⟩
        · rcases h23 with h2 | h3
          · exact (RRead_num2 (mkS l) (ne_zeros (head_ne 2 (by decide) h2)) (by rw [mkS_size, h33]) (fun h => mkS_at0 l 2 (by rw [h2]; rfl) h) (RNum_f l h33 hlt) w).mono fun e w' k => ⟨0, 0, 0, k.1, k.2⟩
          · exact (RRead_num3 (mkS l) (ne_zeros (head_ne 3 (by decide) h3)) (by rw [mkS_size, h33]) (fun h => mkS_at0 l 3 (by rw [h3]; rfl) h) (RNum_f l h33 hlt) w).mono fun e w' k => ⟨0, 0, 0, k.1, k.2⟩
      · have hz : l ≠ List.replicate 33 0 := by
          rintro rfl
          exact h0 rfl
        have hne : (l.getD 0 0).toNat ≠ 2 ∧ (l.getD 0 0).toNat ≠ 3 := by
          refine ⟨fun e => h23 (.inl (UInt8.toNat_inj.1 (e.trans rfl))), fun e => h23 (.inr (UInt8.toNat_inj.1 (e.trans rfl)))⟩
        obtain ⟨q, hq⟩ : ∃ q, (l.getD 0 0).toNat = q := ⟨_, rfl⟩
        rw [hq] at hne
        exact (RRead_head (mkS l) (ne_zeros hz) (by rw [mkS_size, h33]) q (fun h => mkS_at0 l q hq h) (by simp; omega) (by simp; omega) w).mono fun e w' k => ⟨0, 0, 0, k.1, k.2⟩
  · have hz : l ≠ List.replicate 33 0 := by
      rintro rfl
      exact h33 (by simp)
    exact (RRead_len (mkS l) (ne_zeros hz) (by rw [mkS_size]; simp; omega) w).mono fun e w' k => ⟨0, 0, 0, k.1, k.2⟩
theorem RRead_f (s : ByteArray) (h : rdOk s.data.toList = false) (w : World) : Calls Try.prog 9 #[.string s] w fun e w' => ∃ X Y Z : K, e = .returned (.tuple #[rpV X Y Z, .bool false]) ∧ Fr Nob w w' := by
  have := RRead_fl s.data.toList h w
  rwa [mkS_data] at this
end Go.Proofs.Ytdbgddngapminaa

/- The reference's Read and Number, each as one contract; the law's told. -/
namespace Go.Proofs.Ytdbgddngapminaa
open Go.RowKit Go.Mv Mvp Mvq
theorem RRead_u (s : ByteArray) (w : World) : Calls Try.prog 9 #[.string s] w fun e w' => ∃ X Y Z : K, e = .returned (.tuple #[rpV X Y Z, .bool (rdOk s.data.toList)]) ∧ (rdOk s.data.toList = true → rpL X Y Z = (rdR s.data.toList).L) ∧ Fr Nob w w' := by
  cases h : rdOk s.data.toList
  · exact (RRead_f s h w).mono fun e w' ⟨X, Y, Z, k1, k2⟩ => ⟨X, Y, Z, k1, fun h => (by cases h), k2⟩
  · exact (RRead_t s h w).mono fun e w' k => ⟨_, _, _, k.1, fun _ => rfl, k.2⟩
theorem RNumQ_u (s : ByteArray) (w : World) : Calls Try.prog 11 #[fv mQ.M, .string s] w fun e w' => ∃ N : Nat, e = .returned (.tuple #[i4 N, .bool (numB mQ s.data.toList)]) ∧ (numB mQ s.data.toList = true → N = beN s.data.toList) ∧ Fr Nob w w' := by
  cases h : numB mQ s.data.toList
  · exact (Number_f mQ mQ_ok.lt s w h).mono fun e w' ⟨N, k1, k2⟩ => ⟨N, k1, fun h => (by cases h), k2⟩
  · exact (Number_t mQ mQ_ok.lt s w h).mono fun e w' k => ⟨_, k.1, fun _ => rfl, k.2⟩
theorem RQ_u (w : World) : Calls Try.prog 10 #[] w fun e w' => e = .returned (fv mQ.M) ∧ Fr Nob w w' := Q_any mQ .one w
theorem addR_rd {la lb : List UInt8} (ha : rdOk la = true) (hb : rdOk lb = true) : (addR (rdR la) (rdR lb)).pt = padd (rdPt la) (rdPt lb) := by rw [addR_pt, rdR_pt ha, rdR_pt hb]
theorem timesR_rd {lk la : List UInt8} (hk : numB mQ lk = true) (ha : rdOk la = true) : (timesR (beN lk) (rdR la)).pt = pmul (beN lk) (rdPt la) := by
  rw [timesR_pt _ (Nat.lt_trans (numB_lt2 hk) (by decide)), rdR_pt ha]
theorem negR_rd {la : List UInt8} (ha : rdOk la = true) : (negR (rdR la)).pt = pneg (rdPt la) := by rw [negR_pt, rdR_pt ha]
theorem told3_ok (v : Value) (l : List UInt8) (w : World) (hb : BPart w v l) :
    Calls Try.prog 22 #[v, .int .i64 0, .int .i64 0, .string (mkS l)] w fun e w' => e = .returned (.bool true) ∧ Fr Nob w w' := by
  obtain ⟨a, n, c, rfl, -, hrd⟩ := hb
  have hs := fun wx (h : Fr Nob w wx) => run_string (P := Try.prog) (hrd.still h) c Try.underlying34 Try.underlying5 Try.underlying9
  have hs0 := hs _ (Fr.refl _ _)
  clear hs hrd
  go_enter Try.func22, Try.ntmps22
  go_wp2_with fail
  go_ret
  exact ⟨rfl, Fr.refl _ _⟩
theorem told3_bad (v : Value) (w : World) (c : Int) (s : ByteArray) (hb : BPart w v []) (hc : (c != 0) = true) :
    Calls Try.prog 22 #[v, .int .i64 c, .int .i64 c, .string s] w fun e w' => e = .returned (.bool true) ∧ Fr Nob w w' := by
  obtain ⟨a, n, d, rfl, -, hrd⟩ := hb
  obtain rfl : n = 0 := hrd.len.symm
  go_enter Try.func22, Try.ntmps22
  go_wp2_with fail
  go_ret
  exact ⟨rfl, Fr.refl _ _⟩
theorem told3_u (v : Value) (l : List UInt8) (c e : Int) (s : ByteArray) (w : World) (hb : BPart w v l) (h : (e = 0 ∧ c = 0 ∧ s = mkS l) ∨ ((e != 0) = true ∧ c = e ∧ l = [])) :
    Calls Try.prog 22 #[v, .int .i64 c, .int .i64 e, .string s] w fun e w' => e = .returned (.bool true) ∧ Fr Nob w w' := by
  rcases h with ⟨rfl, rfl, rfl⟩ | ⟨h1, rfl, rfl⟩
  · exact told3_ok v l w hb
  · exact told3_bad v w c s hb h1
theorem p_ok {la lb : List UInt8} (ha : rdOk la = true) (hb : rdOk lb = true) : pC la lb = 0 ∧ pS la lb = wrPt (padd (rdPt la) (rdPt lb)) := by unfold pC pS; rw [ha, hb]; exact ⟨rfl, rfl⟩
theorem p_no {la lb : List UInt8} (h : (rdOk la && rdOk lb) = false) : pC la lb = 4 ∧ pS la lb = [] := by unfold pC pS; rw [h]; exact ⟨rfl, rfl⟩
theorem m_ok {la : List UInt8} (ha : rdOk la = true) : mC la = 0 ∧ mS la = wrPt (pneg (rdPt la)) := by unfold mC mS; rw [ha]; exact ⟨rfl, rfl⟩
theorem m_no {la : List UInt8} (ha : rdOk la = false) : mC la = 4 ∧ mS la = [] := by unfold mC mS; rw [ha]; exact ⟨rfl, rfl⟩
theorem t_ok {lk la : List UInt8} (hk : numB mQ lk = true) (ha : rdOk la = true) : tC lk la = 0 ∧ tS lk la = wrPt (pmul (beN lk) (rdPt la)) := by unfold tC tS; rw [hk, ha]; exact ⟨rfl, rfl⟩
theorem t_nok {lk la : List UInt8} (hk : numB mQ lk = false) : tC lk la = 3 ∧ tS lk la = [] := by unfold tC tS; rw [hk]; exact ⟨rfl, rfl⟩
theorem t_nop {lk la : List UInt8} (hk : numB mQ lk = true) (ha : rdOk la = false) : tC lk la = 4 ∧ tS lk la = [] := by unfold tC tS; rw [hk, ha]; exact ⟨rfl, rfl⟩
theorem rpL_one (x y z : K) : ∀ v ∈ rpL x y z, v.oneCell' = true := pt_one _ _ _
end Go.Proofs.Ytdbgddngapminaa

/- The law SigmaExtracts. -/
namespace Mvp
def exE (m : Md) (l1 l2 l3 l4 : List UInt8) : Nat := if numsB m [l1, l2, l3, l4] = true then (if (beN l1 == beN l3) = true then 6 else 0) else 3
def exS (m : Md) (l1 l2 l3 l4 : List UInt8) : List UInt8 := if numsB m [l1, l2, l3, l4] = true then (if (beN l1 == beN l3) = true then [] else be32 (secN m.M (beN l1) (beN l2) (beN l3) (beN l4))) else []
end Mvp
namespace Go.Proofs.Ytdbgddngapminaa
open Go.RowKit Go.Mv Mvp
theorem RdB.none0 (w : World) (a : Option Addr) : RdB w a 0 [] := ⟨rfl, .inl rfl⟩
theorem Extract_all (m : Md) (hk : KindOf 1 m) (v1 : Value) (l1 : List UInt8) (v2 : Value) (l2 : List UInt8) (v3 : Value) (l3 : List UInt8) (v4 : Value) (l4 : List UInt8) (w : World) (h1 : BPart w v1 l1) (h2 : BPart w v2 l2) (h3 : BPart w v3 l3) (h4 : BPart w v4 l4) :
    Calls Try.prog 31 #[v1, v2, v3, v4] w fun e w' => ∃ a n c, e = .returned (.tuple #[.slice a n c, .int .i64 (exE m l1 l2 l3 l4 : Nat)]) ∧ RdB w' a n (exS m l1 l2 l3 l4) ∧ Fr Nob w w' := by
  cases hg : numsB m [l1, l2, l3, l4]
  · refine (Extract_bad m hk v1 l1 v2 l2 v3 l3 v4 l4 w h1 h2 h3 h4 hg).mono fun e w' h => ?_
    refine ⟨none, 0, 0, ?_, ?_, h.2⟩
    · rw [h.1]; simp [exE, hg]
    · simp only [exS, hg]; exact RdB.none0 _ _
  · have hn := hg
    unfold numsB at hn
    simp only [List.all_cons, List.all_nil, Bool.and_true, Bool.and_eq_true] at hn
    have e1 : (beN l1 % m.M == beN l3 % m.M) = (beN l1 == beN l3) := by rw [Nat.mod_eq_of_lt (numB_lt m _ hn.1), Nat.mod_eq_of_lt (numB_lt m _ hn.2.2.1)]
    cases he : (beN l1 == beN l3)
    · refine (Extract_ok m hk v1 l1 v2 l2 v3 l3 v4 l4 w h1 h2 h3 h4 hg (by rw [e1, he])).mono fun e w' h => ?_
      obtain ⟨a, c, h5, h6, h7⟩ := h
      refine ⟨a, 32, c, ?_, ?_, h7⟩
      · rw [h5]; simp only [exE, hg, he]; rfl
      · simp only [exS, hg, he]; exact h6
    · refine (Extract_none m hk v1 l1 v2 l2 v3 l3 v4 l4 w h1 h2 h3 h4 hg (by rw [e1, he])).mono fun e w' h => ?_
      refine ⟨none, 0, 0, ?_, ?_, h.2⟩
      · rw [h.1]; simp only [exE, hg, he]; rfl
      · simp only [exS, hg, he]; exact RdB.none0 _ _
theorem BPart.ofOwn {w : World} {base : Nat} {v : Value} {n : Nat} {l : List UInt8} (h : Own w base 5 1 v n (bs l)) : BPart w v l := by
  obtain ⟨a, c, rfl, hc, hr, -⟩ := h.form
  exact ⟨a, n, c, rfl, hc, by rw [Nat.mul_one] at hr; exact hr⟩
attribute [local irreducible] limbs lw mix cw cSub cAdd cMul foldC valFrom beN laid be32 powm montT mstep elN mdL elCells numsB numB secN exE exS

end Go.Proofs.Ytdbgddngapminaa

/- The law GroupPoints. -/
namespace Go.Proofs.Ytdbgddngapminaa
open Go.RowKit Go.Mv Mvp Mvq
attribute [local irreducible] limbs lw mix cw cSub cAdd cMul foldC valFrom beN laid be32 powm montT mstep elN mdL numB rtV rtOk kN kc kinv wrPt addR noR negR timesR tmsR RT.L gXn gYn rpL rdOk rdPt rdR pS pC mS mC tS tC

set_option maxHeartbeats 16000000 in
set_option maxRecDepth 1000000 in
theorem law_GroupPoints_k (a b n : ByteArray) (w : World) (h1 : a.size ≤ 4096) (h2 : b.size ≤ 4096) (h3 : n.size ≤ 4096) :
    Calls Try.prog 3 #[.string a, .string b, .string n] w fun e w' => e = .returned (.bool true) ∧ Fr Nob w w' := by
  have hI1 : ¬ ((4096 : Int) < (a.size : Int)) := by omega
  have hI2 : ¬ ((4096 : Int) < (b.size : Int)) := by omega
  have hI3 : ¬ ((4096 : Int) < (n.size : Int)) := by omega
  have HSa := Lib.hid h1
  have HSb := Lib.hid h2
  have HSn := Lib.hid h3
  clear h1 h2 h3
  have st0 := St.start Nob w
  go_enter Try.func3, Try.ntmps3
  go_wp2_with fail
  refine (RRead_u a _).mono ?_
  rintro e' w1 ⟨X1, Y1, Z1, rfl, hx1, hf1⟩
  have st1 := st0.keep hf1
  have HX1 := Lib.hid hx1
  clear hx1
  clear st0 hf1
  go_wp2_with (with_reducible refine wl_stop (o := ⟨some 7, _, _, _, _, _⟩) ?_)
  refine wl_allocS st1 rfl rfl (z := .agg #[.int .u64 0, .int .u64 0, .int .u64 0, .int .u64 0, .int .u64 0, .int .u64 0, .int .u64 0, .int .u64 0, .int .u64 0, .int .u64 0, .int .u64 0, .int .u64 0]) (by kernel_rfl) (cw 12 0) (by rw [cw_zero]; rfl) ?_
  intro g7 w2 st2
  clear st1
  go_wp2_with (with_reducible refine wl_stop (o := ⟨none, _, _, _, _, _⟩) ?_)
  refine wl_storeS st2 0 rfl rfl rfl rfl rfl (by first | (simp [cw_len]; done) | (simp [RT.len]; done) | (simp [rpL_len]; done) | (simp [cw_len, RT.len]; done) | (simp [cw_len, rpL_len]; done) | simp [cw_len, RT.len, rpL_len]) (by kernel_rfl) (rpL_one _ _ _) ?_
  intro w3 st3
  clear st2
  go_wp2_with fail
  refine (RRead_u b _).mono ?_
  rintro e' w4 ⟨X2, Y2, Z2, rfl, hx2, hf4⟩
  have st4 := st3.keep hf4
  have HX2 := Lib.hid hx2
  clear hx2
  clear st3 hf4
  go_wp2_with (with_reducible refine wl_stop (o := ⟨some 9, _, _, _, _, _⟩) ?_)
  refine wl_allocS st4 rfl rfl (z := .agg #[.int .u64 0, .int .u64 0, .int .u64 0, .int .u64 0, .int .u64 0, .int .u64 0, .int .u64 0, .int .u64 0, .int .u64 0, .int .u64 0, .int .u64 0, .int .u64 0]) (by kernel_rfl) (cw 12 0) (by rw [cw_zero]; rfl) ?_
  intro g9 w5 st5
  clear st4
  go_wp2_with (with_reducible refine wl_stop (o := ⟨none, _, _, _, _, _⟩) ?_)
  refine wl_storeS st5 1 rfl rfl rfl rfl rfl (by first | (simp [cw_len]; done) | (simp [RT.len]; done) | (simp [rpL_len]; done) | (simp [cw_len, RT.len]; done) | (simp [cw_len, rpL_len]; done) | simp [cw_len, RT.len, rpL_len]) (by kernel_rfl) (rpL_one _ _ _) ?_
  intro w6 st6
  clear st5
  go_wp2_with fail
  refine (RQ_u _).mono ?_
  rintro e' w7 ⟨rfl, hf7⟩
  have st7 := st6.keep hf7
  clear st6 hf7
  go_wp2_with fail
  refine (RNumQ_u n _).mono ?_
  rintro e' w8 ⟨N, rfl, hn, hf8⟩
  have st8 := st7.keep hf8
  have HN := Lib.hid hn
  clear hn
  clear st7 hf8
  go_wp2_with (with_reducible refine wl_stop (o := ⟨some 11, _, _, _, _, _⟩) ?_)
  refine wl_allocS st8 rfl rfl (z := .agg #[.int .u64 0, .int .u64 0, .int .u64 0, .int .u64 0]) (by kernel_rfl) (cw 4 0) (by rw [cw_zero]; rfl) ?_
  intro g11 w9 st9
  clear st8
  go_wp2_with (with_reducible refine wl_stop (o := ⟨none, _, _, _, _, _⟩) ?_)
  refine wl_storeS st9 2 rfl rfl rfl rfl rfl (by first | (simp [cw_len]; done) | (simp [RT.len]; done) | (simp [rpL_len]; done) | (simp [cw_len, RT.len]; done) | (simp [cw_len, rpL_len]; done) | simp [cw_len, RT.len, rpL_len]) (by kernel_rfl) (cw_one _ _) ?_
  intro w10 st10
  clear st9
  go_wp2_with fail
  refine (lent_any a _ (by have := HSa.out; omega)).mono ?_
  rintro e' w11 ⟨rfl, hga, hfa, hza⟩
  have st11 := st10.keep hfa
  clear hza st10
  generalize w10.heap.size = gi at *
  have hrda : RdB w11 (some ⟨gi, 0, none⟩) (a.size + 160) (lentL a.data.toList) := by
    have := Rd.whole hga
    rwa [length_bs, lentL_len, size_list] at this
  have HRa := Lib.hid hrda
  clear hga hrda hfa
  go_wp2_with fail
  refine (lent_any b _ (by have := HSb.out; omega)).mono ?_
  rintro e' w12 ⟨rfl, hgb, hfb, hzb⟩
  have st12 := st11.keep hfb
  clear hzb st11
  generalize w11.heap.size = gj at *
  have hrdb : RdB w12 (some ⟨gj, 0, none⟩) (b.size + 160) (lentL b.data.toList) := by
    have := Rd.whole hgb
    rwa [length_bs, lentL_len, size_list] at this
  have HRa2 := Lib.hid (HRa.out.still hfb)
  clear HRa
  have HRb := Lib.hid hrdb
  clear hgb hrdb hfb
  have HPa : Hid (BPart w12 (.slice (some ⟨gi, 0, none⟩) a.size (a.size + 160)) a.data.toList) := Lib.hid ⟨_, _, _, rfl, by omega, by
    have h := RdB.front HRa2.out a.size (by omega)
    rwa [lentL_take] at h⟩
  have HPb : Hid (BPart w12 (.slice (some ⟨gj, 0, none⟩) b.size (b.size + 160)) b.data.toList) := Lib.hid ⟨_, _, _, rfl, by omega, by
    have h := RdB.front HRb.out b.size (by omega)
    rwa [lentL_take] at h⟩
  have k1 := fun wx => run_slice_hi (P := Try.prog) wx Try.underlying34 size_u8 (some ⟨gi, 0, none⟩) (a.size + 160) (a.size + 160) .i64 a.size (by omega)
  have k2 := fun wx => run_slice_hi (P := Try.prog) wx Try.underlying34 size_u8 (some ⟨gj, 0, none⟩) (b.size + 160) (b.size + 160) .i64 b.size (by omega)
  have hci : (a.size : Int) ≤ (a.size : Int) + 160 := by omega
  have hcj : (b.size : Int) ≤ (b.size : Int) + 160 := by omega
  have F0 := Lib.hid (Fr.refl Nob w12)
  go_wp2_with fail
  refine (GPoint_c _ a.data.toList _ (HPa.out.still F0.out)).mono ?_
  rintro e' w13 ⟨rfl, hf⟩
  have st13 := st12.keep hf
  have F1 := Lib.hid (F0.out.then hf)
  clear hf st12 F0
  go_wp2_with fail
  refine wp_region_noPanic ?_
  refine wp_region_ladR st13 (fun wz => Fr Nob w12 wz) F1.out.drew (fun _ _ h k => h.then k) 13 [.w 0, .w 1, .w 2, .w 3, .w 4, .w 5, .w 6, .w 7, .c 8, .w 9, .w 10, .w 11, .w 12] (.m 13 .nil) (by kernel_rfl) (by kernel_rfl) (fun _ _ _ _ _ h => h) ?_
  clear st13
  iterate 8 (refine lad_w (v := ?_) rfl rfl (fun xq wx => ?_) ?_; rotate_left 1; (go_simp; with_reducible rfl); try simp only [Act.put, List.setIfInBounds_toArray, List.set_cons_zero, List.set_cons_succ])
  refine lad_callX (X := Value) (fun v => .tuple #[v, .int .i64 (pC a.data.toList b.data.toList)]) (fun v w => BPart w v (pS a.data.toList b.data.toList)) (fun _ _ _ h k => h.still k) rfl rfl rfl Try.call14 (fun w hS hR => (GPlus_u _ _ a.data.toList b.data.toList _ (HPa.out.still hR) (HPb.out.still hR)).mono fun e w' ⟨v, k1, k2, k3⟩ => ⟨v, k1, k2.part, k3⟩) (fun _ => rfl) fun v1 => ?_
  try simp only [Act.put, List.setIfInBounds_toArray, List.set_cons_zero, List.set_cons_succ]
  iterate 4 (refine lad_w (v := ?_) rfl rfl (fun xq wx => ?_) ?_; rotate_left 1; (go_simp; with_reducible rfl); try simp only [Act.put, List.setIfInBounds_toArray, List.set_cons_zero, List.set_cons_succ])
  refine lad_end fun xq w14 st14 hR => ?_
  try dsimp only
  have HV1 := Lib.hid hR.2
  have F2 := Lib.hid hR.1
  clear F1
  clear hR xq
  refine plan_m rfl rfl ?_
  go_simp
  try simp only [Act.put, List.setIfInBounds_toArray, List.set_cons_zero, List.set_cons_succ]
  refine plan_end ?_
  refine NoPanic.normal ?_
  go_wp2_with fail
  refine (GMinus_u _ a.data.toList _ (HPa.out.still F2.out)).mono ?_
  rintro e' w15 ⟨v2, rfl, ho, hf⟩
  have st15 := st14.keep hf
  have F3 := Lib.hid (F2.out.then hf)
  replace HV1 := Lib.hid (HV1.out.still hf)
  have HV2 := Lib.hid ho.part
  clear ho
  clear hf st14 F2
  go_wp2_with (with_reducible refine wl_stop (o := ⟨some 93, _, _, _, _, _⟩) ?_)
  refine wl_bytes (q := n) rfl rfl Try.underlying9 Try.underlying34 Try.underlying5 rfl (by have := HSn.out; unfold maxLen; omega) 0 (Nat.zero_le _) ?_
  intro cap w16 ho hf hz
  clear hz
  have st16 := st15.keep hf
  have F4 := Lib.hid (F3.out.then hf)
  have HPn := Lib.hid (BPart.ofOwn ho)
  replace HV1 := Lib.hid (HV1.out.still hf)
  replace HV2 := Lib.hid (HV2.out.still hf)
  clear hf ho st15 F3
  go_wp2_with fail
  refine (GTimes_u _ _ n.data.toList a.data.toList _ HPn.out (HPa.out.still F4.out)).mono ?_
  rintro e' w17 ⟨v3, rfl, ho, hf⟩
  have st17 := st16.keep hf
  have F5 := Lib.hid (F4.out.then hf)
  replace HV1 := Lib.hid (HV1.out.still hf)
  replace HV2 := Lib.hid (HV2.out.still hf)
  have HV3 := Lib.hid ho.part
  clear ho HPn
  clear hf st16 F4
  clear k1 k2 hci hcj
  go_wp2_with fail
  refine (still_any _ _ _ _ a _ (by have := HSa.out; omega) (HRa2.out.still F5.out)).mono ?_
  rintro e' w18 ⟨rfl, hf⟩
  have st18 := st17.keep hf
  have F6 := Lib.hid (F5.out.then hf)
  replace HV1 := Lib.hid (HV1.out.still hf)
  replace HV2 := Lib.hid (HV2.out.still hf)
  replace HV3 := Lib.hid (HV3.out.still hf)
  rw [decide_eq_true rfl]
  clear hf st17 F5
  go_wp2_with fail
  refine (still_any _ _ _ _ b _ (by have := HSb.out; omega) (HRb.out.still F6.out)).mono ?_
  rintro e' w19 ⟨rfl, hf⟩
  have st19 := st18.keep hf
  have F7 := Lib.hid (F6.out.then hf)
  replace HV1 := Lib.hid (HV1.out.still hf)
  replace HV2 := Lib.hid (HV2.out.still hf)
  replace HV3 := Lib.hid (HV3.out.still hf)
  rw [decide_eq_true rfl]
  clear hf st18 F6
  clear F7
  have st := st19
  clear st19 HPa HPb HRa2 HRb HSa HSb HSn
  rcases hbx : rdOk a.data.toList with _ | _
  all_goals
    have HBX := Lib.hid hbx
    clear hbx
    rcases hby : rdOk b.data.toList with _ | _
    all_goals
      have HBY := Lib.hid hby
      clear hby
      rcases hbk : numB mQ n.data.toList with _ | _
      all_goals
        have HBK := Lib.hid hbk
        clear hbk
        try (rw [HX1.out HBX.out] at st)
        try (rw [HX2.out HBY.out] at st)
        try (rw [HN.out HBK.out] at st)
        try (go_wp2_with (with_reducible refine wl_stop (o := ⟨some 119, _, _, _, _, _⟩) ?_); refine wl_loadSt st 0 rfl rfl rfl Try.underlying26 rfl rfl (by kernel_rfl) ?_; go_wp2_with fail; refine (RNeg_c (rdR a.data.toList) _).mono ?_; rintro e' w' ⟨rfl, hf⟩; replace st := st.keep hf; replace HV1 := Lib.hid (HV1.out.still hf); replace HV2 := Lib.hid (HV2.out.still hf); replace HV3 := Lib.hid (HV3.out.still hf); clear hf; go_wp2_with fail; refine (RWritten_c (negR (rdR a.data.toList)) _).mono ?_; rintro e' w' ⟨rfl, hf⟩; replace st := st.keep hf; replace HV1 := Lib.hid (HV1.out.still hf); replace HV2 := Lib.hid (HV2.out.still hf); replace HV3 := Lib.hid (HV3.out.still hf); clear hf)
        try (go_wp2_with (with_reducible refine wl_stop (o := ⟨some 126, _, _, _, _, _⟩) ?_); refine wl_loadSt st 0 rfl rfl rfl Try.underlying26 rfl rfl (by kernel_rfl) ?_; go_wp2_with (with_reducible refine wl_stop (o := ⟨some 127, _, _, _, _, _⟩) ?_); refine wl_loadSt st 1 rfl rfl rfl Try.underlying26 rfl rfl (by kernel_rfl) ?_; go_wp2_with fail; refine (RPlus_c (rdR a.data.toList) (rdR b.data.toList) _).mono ?_; rintro e' w' ⟨rfl, hf⟩; replace st := st.keep hf; replace HV1 := Lib.hid (HV1.out.still hf); replace HV2 := Lib.hid (HV2.out.still hf); replace HV3 := Lib.hid (HV3.out.still hf); clear hf; go_wp2_with fail; refine (RWritten_c (addR (rdR a.data.toList) (rdR b.data.toList)) _).mono ?_; rintro e' w' ⟨rfl, hf⟩; replace st := st.keep hf; replace HV1 := Lib.hid (HV1.out.still hf); replace HV2 := Lib.hid (HV2.out.still hf); replace HV3 := Lib.hid (HV3.out.still hf); clear hf)
        try (go_wp2_with (with_reducible refine wl_stop (o := ⟨some 130, _, _, _, _, _⟩) ?_); refine wl_loadS st 2 rfl rfl rfl Try.underlying24 rfl (by kernel_rfl) ?_; go_wp2_with (with_reducible refine wl_stop (o := ⟨some 131, _, _, _, _, _⟩) ?_); refine wl_loadSt st 0 rfl rfl rfl Try.underlying26 rfl rfl (by kernel_rfl) ?_; go_wp2_with fail; refine (RTimes_c (beN n.data.toList) (rdR a.data.toList) _).mono ?_; rintro e' w' ⟨rfl, hf⟩; replace st := st.keep hf; replace HV1 := Lib.hid (HV1.out.still hf); replace HV2 := Lib.hid (HV2.out.still hf); replace HV3 := Lib.hid (HV3.out.still hf); clear hf; go_wp2_with fail; refine (RWritten_c (timesR (beN n.data.toList) (rdR a.data.toList)) _).mono ?_; rintro e' w' ⟨rfl, hf⟩; replace st := st.keep hf; replace HV1 := Lib.hid (HV1.out.still hf); replace HV2 := Lib.hid (HV2.out.still hf); replace HV3 := Lib.hid (HV3.out.still hf); clear hf)
        go_wp2_with fail
        refine (told3_u _ _ _ _ _ _ HV1.out (by first | exact .inl ⟨rfl, (p_ok HBX.out HBY.out).1, by rw [(p_ok HBX.out HBY.out).2, addR_rd HBX.out HBY.out]⟩ | exact .inr ⟨rfl, (p_no (by rw [HBX.out, HBY.out]; rfl)).1, (p_no (by rw [HBX.out, HBY.out]; rfl)).2⟩)).mono ?_
        rintro e' w' ⟨rfl, hf⟩
        replace st := st.keep hf
        replace HV1 := Lib.hid (HV1.out.still hf)
        replace HV2 := Lib.hid (HV2.out.still hf)
        replace HV3 := Lib.hid (HV3.out.still hf)
        clear hf
        go_wp2_with fail
        refine (told3_u _ _ _ _ _ _ HV2.out (by first | exact .inl ⟨rfl, (m_ok HBX.out).1, by rw [(m_ok HBX.out).2, negR_rd HBX.out]⟩ | exact .inr ⟨rfl, (m_no HBX.out).1, (m_no HBX.out).2⟩)).mono ?_
        rintro e' w' ⟨rfl, hf⟩
        replace st := st.keep hf
        replace HV1 := Lib.hid (HV1.out.still hf)
        replace HV2 := Lib.hid (HV2.out.still hf)
        replace HV3 := Lib.hid (HV3.out.still hf)
        clear hf
        go_wp2_with fail
        refine (told3_u _ _ _ _ _ _ HV3.out (by first | exact .inl ⟨rfl, (t_ok HBK.out HBX.out).1, by rw [(t_ok HBK.out HBX.out).2, timesR_rd HBK.out HBX.out]⟩ | exact .inr ⟨rfl, (t_nok HBK.out).1, (t_nok HBK.out).2⟩ | exact .inr ⟨rfl, (t_nop HBK.out HBX.out).1, (t_nop HBK.out HBX.out).2⟩)).mono ?_
        rintro e' w' ⟨rfl, hf⟩
        replace st := st.keep hf
        replace HV1 := Lib.hid (HV1.out.still hf)
        replace HV2 := Lib.hid (HV2.out.still hf)
        replace HV3 := Lib.hid (HV3.out.still hf)
        clear hf
        have hfr := st.fr
        clear st
        go_wp2_with fail
        go_ret
        exact ⟨rfl, hfr⟩

set_option maxHeartbeats 16000000 in
set_option maxRecDepth 1000000 in
theorem law_GroupPoints (a b n : ByteArray) (w : World) :
    Calls Try.prog 3 #[.string a, .string b, .string n] w fun e w' => e = .returned (.bool true) ∧ Fr Nob w w' := by
  by_cases h1 : 4096 < a.size
  · have hJ : (4096 : Int) < (a.size : Int) := by omega
    go_enter Try.func3, Try.ntmps3
    go_wp2
    go_ret
    exact ⟨rfl, Fr.refl _ _⟩
  by_cases h2 : 4096 < b.size
  · have hI1 : ¬ ((4096 : Int) < (a.size : Int)) := by omega
    have hJ : (4096 : Int) < (b.size : Int) := by omega
    go_enter Try.func3, Try.ntmps3
    go_wp2
    go_ret
    exact ⟨rfl, Fr.refl _ _⟩
  by_cases h3 : 4096 < n.size
  · have hI1 : ¬ ((4096 : Int) < (a.size : Int)) := by omega
    have hI2 : ¬ ((4096 : Int) < (b.size : Int)) := by omega
    have hJ : (4096 : Int) < (n.size : Int) := by omega
    go_enter Try.func3, Try.ntmps3
    go_wp2
    go_ret
    exact ⟨rfl, Fr.refl _ _⟩
  exact law_GroupPoints_k a b n w (by omega) (by omega) (by omega)
end Go.Proofs.Ytdbgddngapminaa

/- From a walk that turns nothing (Fr Nob) to what a law's row asks behind the call. -/
namespace Go.Mv
open Go.RowKit Go.ChangeShapes Go.WideShapes

/-- the arguments read behind the call as they read before -/
theorem Below.trodAll {H : Type} {enc : TypeId × Value → H} {P : Program} (hl : laidOutB P = true) {W W' : World} (hb : Below W.heap.size W W') :
    ∀ (ts : List TypeId) (vs : List Value) (ds : List (DataW H)) (ps : List MemPlace), (∀ t ∈ ts, P.readableRec t = true ∧ t < P.types.size) → DataW.TrodAll enc P W 0 (fun _ => true) true ts vs ds ps → (∀ x ∈ ps, x.block < W.heap.size) →
      DataW.TrodAll enc P W' 0 (fun b => decide (b < W.heap.size)) true ts vs ds ps
  | [], vs, ds, ps, _, h, _ => by
    obtain ⟨rfl, rfl, rfl⟩ := trodAll_nil h
    exact trodAll_mk0
  | t :: ts, vs, ds, ps, hr, h, hlt => by
    obtain ⟨v, vs', d, ds', p, q, rfl, rfl, rfl, h0, hs⟩ := trodAll_cons h
    have h1 := hr t (by simp)
    exact trodAll_cons_mk (Below.trod hl h1.1 h1.2 h0 hb (fun x hx => hlt x (by simp [hx]))) (Below.trodAll hl hb ts vs' ds' q (fun t ht => hr t (by simp [ht])) hs (fun x hx => hlt x (by simp [hx])))

/-- what a law's row asks behind the call -/
theorem law_post {H : Type} {enc : TypeId × Value → H} {P : Program} {f : Func} {s : ChangeSpec} {W W' : World} {args : Array Value} {ds gs : List (DataW H)} {before : List MemPlace}
    (hl : laidOutB P = true) (hr : ∀ t ∈ f.params.toList, P.readableRec t = true ∧ t < P.types.size) (hW : DataW.Whole enc P f.params.toList s.vars false W args.toList ds gs before)
    (hv : s.vars = []) (hres : (s.fn H (ds ++ gs)).results = [.lit (.bool true)]) (harg : (s.fn H (ds ++ gs)).args = ds) (hvar : (s.fn H (ds ++ gs)).vars = [])
    {tb : TypeId} (hrt : f.resultTypes = #[tb]) (hu : P.underlying tb = some .bool) (hf : Fr Nob W W') :
    s.post enc P f false true false false W args (.bool true) W' := by
  have hW' := hW
  obtain ⟨p, q, hA, hV, rfl, hfz, hnd⟩ := hW
  rw [hv] at hV
  obtain ⟨rfl, rfl⟩ := trodVars_none hV
  have hlt : ∀ x ∈ p ++ [], x.block < W.heap.size := fun x hx => hW'.lt x hx
  refine ⟨ds, [], p ++ [], [], p, [], hW', ?_, ?_, ?_, World.keptBut_mono (fun x hx => ⟨hx, ?_⟩) (hf.below.frame (· ∈ p ++ [])), fun h => by cases h⟩
  · rw [hres, hrt]
    exact trodAll_mk1 (shut_bool hu true)
  · rw [harg]
    exact Below.trodAll hl hf.below _ _ _ _ hr hA (fun x hx => hlt x (by simp [hx]))
  · rw [hvar, hv]; exact rfl
  · simp only [List.append_nil] at hx
    exact .inr (.inl hx)
end Go.Mv

/- Arguments that were handed in, opened into the words of Mem. -/
namespace Go.Mv
open Go.RowKit Go.ChangeShapes Go.WideShapes

/-- strings as values -/
def ss (l : List (List UInt8)) : List Value := l.map fun x => .string (mkS x)
theorem ss_len (l : List (List UInt8)) : (ss l).length = l.length := by simp [ss]
theorem ss_get (l : List (List UInt8)) (i : Nat) (hi : i < l.length) : (ss l)[i]? = some (.string (mkS (l.getD i []))) := by
  simp [ss, List.getD_eq_getElem?_getD, hi]

section
variable {H : Type} {enc : TypeId × Value → H} {P : Program} {w : World} {base : Nat} {held : Bool} {spare : Nat → Bool}
theorem weightsAll_mem {e : TypeId} : ∀ {ds : List (DataW H)} {d : DataW H}, d ∈ ds → ∀ n ∈ d.weights P e, n ∈ DataW.weightsAll P e ds
  | [], _, h, _, _ => by simp at h
  | d0 :: ds, d, h, n, hn => by
    simp only [DataW.weightsAll, List.mem_append]
    rcases List.mem_cons.1 h with rfl | h
    · exact .inl hn
    · exact .inr (weightsAll_mem h n hn)
theorem reach_string {ts : List TypeId} {ds : List (DataW H)} (h : (DataW.weightsEach P ts ds).all (· ≤ reachBytes) = true) {j : Nat} {t : TypeId} {s : ByteArray} (ht : ts[j]? = some t) (hd : ds[j]? = some (.lit (.string s.data.toList))) : s.size ≤ 140737488351232 := by
  have := sized_string h ht hd
  have e : s.data.toList.length = s.size := by simp
  have hr : reachBytes = 140737488351232 := rfl
  omega

theorem i64_wf {n : Int} (h : (Lit.int .i64 n).wf = true) : -9223372036854775808 ≤ n ∧ n ≤ 9223372036854775807 := by
  simpa [Lit.wf, IntKind.min, IntKind.max, IntKind.signed, IntKind.bits] using h
/-- a slice of strings that came in -/
theorem open_ss {ts : List TypeId} {ds : List (DataW H)} {j : Nat} {t e : TypeId} {v : Value} {d : DataW H} {ps : List MemPlace} (ht : P.underlying t = some (.slice e)) (he : P.underlying e = some .string) (hc : P.cellsOf e = 1) (hby : P.bytesOf e = 16)
    (hv : Value.okWide P w .any base t v) (h : DataW.Trod enc P w 0 spare held t v d ps) (hz : (DataW.weightsEach P ts ds).all (· ≤ reachBytes) = true) (htj : ts[j]? = some t) (hdj : ds[j]? = some d) :
    ∃ a c ls, v = .slice a ls.length c ∧ Rd w a ls.length (ss ls) ∧ (∀ x ∈ ls, x.length ≤ 140737488351232) ∧ ls.length ≤ 9223372036854775807 ∧ ls.length * 16 ≤ 140737488351232 ∧ ls.length ≤ c := by
  obtain ⟨a0, len, cap, rfl⟩ := okWide_slice ht hv
  obtain ⟨fuel, hf⟩ := h
  have hr : reachBytes = 140737488351232 := rfl
  rcases open_strings ht he hc hf with ⟨hcs, hx⟩ | ⟨a, len', cap', sl, hcs, _, hl, hm, hzl, hx, hcell, hsz⟩
  · simp only [Value.cells] at hcs
    simp only [List.cons.injEq, and_true, Value.slice.injEq] at hcs
    obtain ⟨rfl, rfl, rfl⟩ := hcs
    exact ⟨none, 0, [], rfl, Rd.nil _ _, by simp, by simp, by simp, by simp⟩
  · simp only [Value.cells] at hcs
    simp only [List.cons.injEq, and_true, Value.slice.injEq] at hcs
    obtain ⟨rfl, rfl, rfl⟩ := hcs
    simp only [Prod.mk.injEq] at hx
    obtain ⟨rfl, -⟩ := hx
    have hlen : (sl.take len).length = len := by
      rw [List.length_take, hzl]; split <;> omega
    have hlsl : len ≤ sl.length := by rw [hzl]; split <;> omega
    have hW := sized_slice hz htj hdj ht
    rw [hby, strs, strs, List.length_map, List.length_map, hr] at hW
    refine ⟨some a, cap, (sl.take len).map fun s => s.data.toList, by rw [List.length_map, hlen], ⟨by simp [ss], ?_⟩, ?_, ?_, ?_, ?_⟩
    · rcases Nat.eq_zero_or_pos len with h0 | h0
      · exact .inl (by simp [hlen, h0])
      · right
        obtain ⟨b, o, spot⟩ := a
        have hspot : spot = none := by simpa [Addr.add] using World.cell?_spot (hcell 0 (by omega))
        subst hspot
        refine ⟨b, o, rfl, ?_⟩
        intro i v hv
        have hi : i < len := by
          rcases Nat.lt_or_ge i len with k | k
          · exact k
          · rw [List.getElem?_eq_none (by simp [ss]; omega)] at hv; cases hv
        have h1 := hcell i (by omega)
        rw [addr_add] at h1
        have h2 : (ss ((sl.take len).map fun s => s.data.toList))[i]? = some (.string (sl.getD i ByteArray.empty)) := by
          have : i < sl.length := by omega
          simp [ss, List.getElem?_take, hi, List.getD_eq_getElem?_getD, List.getElem?_eq_getElem this, mkS_data]
        rw [h2] at hv
        cases hv
        exact h1
    · intro x hx
      simp only [List.mem_map] at hx
      obtain ⟨s, hs, rfl⟩ := hx
      have hmem : (DataW.lit (.string s.data.toList) : DataW H) ∈ strs (H := H) (sl.take len) := by
        simp only [strs, List.mem_map]; exact ⟨s, hs, rfl⟩
      have hn : s.data.toList.length ∈ DataW.weightsEach P ts ds := by
        refine DataW.weights_mem_each htj hdj _ ?_
        simp only [DataW.weights, ht, List.mem_cons, List.mem_append]
        exact .inr (.inl (weightsAll_mem hmem _ (by simp [DataW.weights])))
      have := List.all_eq_true.1 hz _ hn
      rw [hr] at this
      simpa using this
    · simp only [maxLen] at hm; simp; omega
    · simp only [List.length_map]; omega
    · simp only [List.length_map]; omega
end
end Go.Mv
