/- The reference's Same, and its Base of layer 5; The law SigmaExtracts; GroupLaw, plain: the law's numbers; contracts at points that are known to be points; The reference's points: Read; The reference's Read, for all bytes; its Base, its Same; The reference's Read and Number, each as one contract; the law's told; The law SigmaSound; The law SigmaSound; From a walk that turns nothing (Fr Nob) to what a law's row asks behind the call; Arguments that were handed in, opened into the words of Mem. -/
import Derived.Test.YtdbgddngapminaaMgSigmaSoundProof7
import Derived.Test.YtdbgddngapminaaMgSigmaSoundProof9
import Derived.Test.YtdbgddngapminaaMgSigmaSoundProof5
import Derived.Test.YtdbgddngapminaaMgSigmaSoundProof4
import Derived.Test.YtdbgddngapminaaMgSigmaSoundProof1
import Derived.ProofKit
import Derived.OpenShut
import Derived.Carry
import Derived.SliceStrings
import Derived.SizedLaws
namespace Go.Proofs.Ytdbgddngapminaa
open Go.RowKit Go.Mv Mvp Mvq
attribute [local irreducible] limbs lw mix cw cSub cAdd cMul foldC valFrom beN laid be32 powm montT mstep elN mdL numB rtV rtOk kN kc kinv wrPt addR noR timesR tmsR RT.L
set_option maxHeartbeats 16000000 in
set_option maxRecDepth 1000000 in
theorem RBase5_c (n : Nat) (w : World) : Calls Try.prog 73 #[i4 n] w fun e w' => e = .returned (.agg (timesR n baseR).L.toArray) ∧ Fr Nob w w' := by
  have st0 := St.start Nob w
  go_enter Try.func73, Try.ntmps73
  go_wp2_with (with_reducible refine wl_stop (o := ⟨some 1, _, _, _, _, _⟩) ?_)
  refine wl_boxS st0 rfl rfl rfl (cw 4 n) rfl ?_
  intro g1 w1 st1
  clear st0
  go_wp2_with (with_reducible refine wl_stop (o := ⟨some 2, _, _, _, _, _⟩) ?_)
  refine wl_allocS st1 rfl rfl (z := .agg #[.int .u64 0, .int .u64 0, .int .u64 0, .int .u64 0, .int .u64 0, .int .u64 0, .int .u64 0, .int .u64 0, .int .u64 0, .int .u64 0, .int .u64 0, .int .u64 0]) (by kernel_rfl) (cw 12 0) (by rw [cw_zero]; rfl) ?_
  intro g2 w2 st2
  clear st1
  go_wp2_with fail
  refine wp_region_noPanic ?_
  refine wp_region_lad st2 3 [.t 0, .c 1, .c 2] (.m 3 .nil) (by kernel_rfl) (by kernel_rfl) (fun _ _ _ _ _ h => h) ?_
  clear st2
  refine lad_arr rfl rfl rfl (fun _ => rfl) (cw 4 n) (fun wx hS => St.rangeL hS 0 rfl 0 _ (by rw [List.drop_zero, List.take_of_length_le (Nat.le_refl _)])) Try.underlying24 rfl (by first | (rw [cw_len]; kernel_rfl) | (rw [RT.len]; kernel_rfl) | (rw [rpL_len]; kernel_rfl) | (simp only [List.length_append, cw_len]; kernel_rfl) | (simp only [List.length_append, cw_len, RT.len, rpL_len]; kernel_rfl)) ?_
  try simp only [Act.put, List.setIfInBounds_toArray, List.set_cons_zero, List.set_cons_succ]
  refine lad_call rfl rfl rfl Try.call111 (fun w hS hR => RG_c _) (fun _ => rfl) ?_
  try simp only [Act.put, List.setIfInBounds_toArray, List.set_cons_zero, List.set_cons_succ]
  refine lad_call rfl rfl rfl Try.call21 (fun w hS hR => RTimes_c n baseR _) (fun _ => rfl) ?_
  try simp only [Act.put, List.setIfInBounds_toArray, List.set_cons_zero, List.set_cons_succ]
  refine lad_end fun xq w3 st3 hR => ?_
  try dsimp only
  clear hR xq
  refine plan_m rfl rfl ?_
  refine wp_storeS st3 1 rfl rfl rfl rfl (by first | (simp only [cw_len]; done) | (simp only [List.length_append, cw_len, RT.len, rpL_len]; done)) (by first | (rw [cw_len]; kernel_rfl) | (rw [RT.len]; kernel_rfl) | (rw [rpL_len]; kernel_rfl) | (simp only [List.length_append, cw_len]; kernel_rfl) | (simp only [List.length_append, cw_len, RT.len, rpL_len]; kernel_rfl)) (RT.one _) ?_
  intro w4 st4
  repeat (first | simp only [List.cons_append] at st4 | simp only [List.nil_append] at st4 | simp only [List.set_cons_succ] at st4 | simp only [List.set_cons_zero] at st4)
  clear st3
  try simp only [Act.put]
  refine plan_end ?_
  refine NoPanic.normal ?_
  have hr := st4.at 1 rfl
  have hfr := st4.fr
  clear st4
  go_wp2_with fail
  exact bodyPost_ret (results_st rfl rfl hr Try.underlying26 rfl (by first | (rw [cw_len]; kernel_rfl) | (rw [RT.len]; kernel_rfl) | (rw [rpL_len]; kernel_rfl) | (simp only [List.length_append, cw_len]; kernel_rfl) | (simp only [List.length_append, cw_len, RT.len, rpL_len]; kernel_rfl))) rfl ⟨rfl, hfr⟩

set_option maxHeartbeats 16000000 in
set_option maxRecDepth 1000000 in
theorem RSame_tt (x1 y1 z1 x2 y2 z2 : K) (hb1 : decide (z1 = 0) = true) (hb2 : decide (z2 = 0) = true) (w : World) : Calls Try.prog 72 #[rpV x1 y1 z1, rpV x2 y2 z2] w fun e w' => e = .returned (.bool true) ∧ Fr Nob w w' := by
  have HB1 := Lib.hid hb1
  have HB2 := Lib.hid hb2
  clear hb1 hb2
  unfold rpV rpL
  have st0 := St.start Nob w
  go_enter Try.func72, Try.ntmps72
  go_wp2_with (with_reducible refine wl_stop (o := ⟨some 2, _, _, _, _, _⟩) ?_)
  refine wl_boxS st0 rfl rfl rfl (cw 4 (kN x1) ++ (cw 4 (kN y1) ++ cw 4 (kN z1))) rfl ?_
  intro g2 w1 st1
  clear st0
  go_wp2_with (with_reducible refine wl_stop (o := ⟨some 3, _, _, _, _, _⟩) ?_)
  refine wl_boxS st1 rfl rfl rfl (cw 4 (kN x2) ++ (cw 4 (kN y2) ++ cw 4 (kN z2))) rfl ?_
  intro g3 w2 st2
  clear st1
  go_wp2_with (with_reducible refine wl_stop (o := ⟨some 7, _, _, _, _, _⟩) ?_)
  refine wl_loadSt st2 0 rfl rfl rfl Try.underlying26 rfl rfl (by first | (rw [cw_len]; kernel_rfl) | (rw [RT.len]; kernel_rfl) | (rw [rpL_len]; kernel_rfl) | (simp only [List.length_append, cw_len]; kernel_rfl) | (simp only [List.length_append, cw_len, RT.len, rpL_len]; kernel_rfl)) ?_
  go_wp2_with fail
  refine (RIs_any x1 y1 z1 true HB1.out _).mono ?_
  rintro e' w3 ⟨rfl, hf3⟩
  have st3 := st2.keep hf3
  clear st2 hf3
  go_wp2_with (with_reducible refine wl_stop (o := ⟨some 9, _, _, _, _, _⟩) ?_)
  refine wl_loadSt st3 1 rfl rfl rfl Try.underlying26 rfl rfl (by first | (rw [cw_len]; kernel_rfl) | (rw [RT.len]; kernel_rfl) | (rw [rpL_len]; kernel_rfl) | (simp only [List.length_append, cw_len]; kernel_rfl) | (simp only [List.length_append, cw_len, RT.len, rpL_len]; kernel_rfl)) ?_
  go_wp2_with fail
  refine (RIs_any x2 y2 z2 true HB2.out _).mono ?_
  rintro e' w4 ⟨rfl, hf4⟩
  have st4 := st3.keep hf4
  clear st3 hf4
  have hfr := st4.fr
  clear st4
  go_wp2_with fail
  go_ret
  exact ⟨rfl, hfr⟩

set_option maxHeartbeats 16000000 in
set_option maxRecDepth 1000000 in
theorem RSame_tf (x1 y1 z1 x2 y2 z2 : K) (hb1 : decide (z1 = 0) = true) (hb2 : decide (z2 = 0) = false) (w : World) : Calls Try.prog 72 #[rpV x1 y1 z1, rpV x2 y2 z2] w fun e w' => e = .returned (.bool false) ∧ Fr Nob w w' := by
  have HB1 := Lib.hid hb1
  have HB2 := Lib.hid hb2
  clear hb1 hb2
  unfold rpV rpL
  have st0 := St.start Nob w
  go_enter Try.func72, Try.ntmps72
  go_wp2_with (with_reducible refine wl_stop (o := ⟨some 2, _, _, _, _, _⟩) ?_)
  refine wl_boxS st0 rfl rfl rfl (cw 4 (kN x1) ++ (cw 4 (kN y1) ++ cw 4 (kN z1))) rfl ?_
  intro g2 w1 st1
  clear st0
  go_wp2_with (with_reducible refine wl_stop (o := ⟨some 3, _, _, _, _, _⟩) ?_)
  refine wl_boxS st1 rfl rfl rfl (cw 4 (kN x2) ++ (cw 4 (kN y2) ++ cw 4 (kN z2))) rfl ?_
  intro g3 w2 st2
  clear st1
  go_wp2_with (with_reducible refine wl_stop (o := ⟨some 7, _, _, _, _, _⟩) ?_)
  refine wl_loadSt st2 0 rfl rfl rfl Try.underlying26 rfl rfl (by first | (rw [cw_len]; kernel_rfl) | (rw [RT.len]; kernel_rfl) | (rw [rpL_len]; kernel_rfl) | (simp only [List.length_append, cw_len]; kernel_rfl) | (simp only [List.length_append, cw_len, RT.len, rpL_len]; kernel_rfl)) ?_
  go_wp2_with fail
  refine (RIs_any x1 y1 z1 true HB1.out _).mono ?_
  rintro e' w3 ⟨rfl, hf3⟩
  have st3 := st2.keep hf3
  clear st2 hf3
  go_wp2_with (with_reducible refine wl_stop (o := ⟨some 9, _, _, _, _, _⟩) ?_)
  refine wl_loadSt st3 1 rfl rfl rfl Try.underlying26 rfl rfl (by first | (rw [cw_len]; kernel_rfl) | (rw [RT.len]; kernel_rfl) | (rw [rpL_len]; kernel_rfl) | (simp only [List.length_append, cw_len]; kernel_rfl) | (simp only [List.length_append, cw_len, RT.len, rpL_len]; kernel_rfl)) ?_
  go_wp2_with fail
  refine (RIs_any x2 y2 z2 false HB2.out _).mono ?_
  rintro e' w4 ⟨rfl, hf4⟩
  have st4 := st3.keep hf4
  clear st3 hf4
  have hfr := st4.fr
  clear st4
  go_wp2_with fail
  go_ret
  exact ⟨rfl, hfr⟩

set_option maxHeartbeats 16000000 in
set_option maxRecDepth 1000000 in
theorem RSame_ft (x1 y1 z1 x2 y2 z2 : K) (hb1 : decide (z1 = 0) = false) (hb2 : decide (z2 = 0) = true) (w : World) : Calls Try.prog 72 #[rpV x1 y1 z1, rpV x2 y2 z2] w fun e w' => e = .returned (.bool false) ∧ Fr Nob w w' := by
  have HB1 := Lib.hid hb1
  have HB2 := Lib.hid hb2
  clear hb1 hb2
  unfold rpV rpL
  have st0 := St.start Nob w
  go_enter Try.func72, Try.ntmps72
  go_wp2_with (with_reducible refine wl_stop (o := ⟨some 2, _, _, _, _, _⟩) ?_)
  refine wl_boxS st0 rfl rfl rfl (cw 4 (kN x1) ++ (cw 4 (kN y1) ++ cw 4 (kN z1))) rfl ?_
  intro g2 w1 st1
  clear st0
  go_wp2_with (with_reducible refine wl_stop (o := ⟨some 3, _, _, _, _, _⟩) ?_)
  refine wl_boxS st1 rfl rfl rfl (cw 4 (kN x2) ++ (cw 4 (kN y2) ++ cw 4 (kN z2))) rfl ?_
  intro g3 w2 st2
  clear st1
  go_wp2_with (with_reducible refine wl_stop (o := ⟨some 7, _, _, _, _, _⟩) ?_)
  refine wl_loadSt st2 0 rfl rfl rfl Try.underlying26 rfl rfl (by first | (rw [cw_len]; kernel_rfl) | (rw [RT.len]; kernel_rfl) | (rw [rpL_len]; kernel_rfl) | (simp only [List.length_append, cw_len]; kernel_rfl) | (simp only [List.length_append, cw_len, RT.len, rpL_len]; kernel_rfl)) ?_
  go_wp2_with fail
  refine (RIs_any x1 y1 z1 false HB1.out _).mono ?_
  rintro e' w3 ⟨rfl, hf3⟩
  have st3 := st2.keep hf3
  clear st2 hf3
  go_wp2_with (with_reducible refine wl_stop (o := ⟨some 9, _, _, _, _, _⟩) ?_)
  refine wl_loadSt st3 1 rfl rfl rfl Try.underlying26 rfl rfl (by first | (rw [cw_len]; kernel_rfl) | (rw [RT.len]; kernel_rfl) | (rw [rpL_len]; kernel_rfl) | (simp only [List.length_append, cw_len]; kernel_rfl) | (simp only [List.length_append, cw_len, RT.len, rpL_len]; kernel_rfl)) ?_
  go_wp2_with fail
  refine (RIs_any x2 y2 z2 true HB2.out _).mono ?_
  rintro e' w4 ⟨rfl, hf4⟩
  have st4 := st3.keep hf4
  clear st3 hf4
  have hfr := st4.fr
  clear st4
  go_wp2_with fail
  go_ret
  exact ⟨rfl, hfr⟩

set_option maxHeartbeats 16000000 in
set_option maxRecDepth 1000000 in
theorem RSame_x (x1 y1 z1 x2 y2 z2 : K) (hb1 : decide (z1 = 0) = false) (hb2 : decide (z2 = 0) = false) (v1 v2 : K) (ev1 : x1 * z2 = v1) (ev2 : x2 * z1 = v2) (hv : decide (v1 = v2) = false) (w : World) : Calls Try.prog 72 #[rpV x1 y1 z1, rpV x2 y2 z2] w fun e w' => e = .returned (.bool false) ∧ Fr Nob w w' := by
  have HB1 := Lib.hid hb1
  have HB2 := Lib.hid hb2
  clear hb1 hb2
  have Hv1 := Lib.hid ev1
  have Hv2 := Lib.hid ev2
  clear ev1 ev2
  have HV := Lib.hid hv
  clear hv
  unfold rpV rpL
  have st0 := St.start Nob w
  go_enter Try.func72, Try.ntmps72
  go_wp2_with (with_reducible refine wl_stop (o := ⟨some 2, _, _, _, _, _⟩) ?_)
  refine wl_boxS st0 rfl rfl rfl (cw 4 (kN x1) ++ (cw 4 (kN y1) ++ cw 4 (kN z1))) rfl ?_
  intro g2 w1 st1
  clear st0
  go_wp2_with (with_reducible refine wl_stop (o := ⟨some 3, _, _, _, _, _⟩) ?_)
  refine wl_boxS st1 rfl rfl rfl (cw 4 (kN x2) ++ (cw 4 (kN y2) ++ cw 4 (kN z2))) rfl ?_
  intro g3 w2 st2
  clear st1
  go_wp2_with (with_reducible refine wl_stop (o := ⟨some 7, _, _, _, _, _⟩) ?_)
  refine wl_loadSt st2 0 rfl rfl rfl Try.underlying26 rfl rfl (by first | (rw [cw_len]; kernel_rfl) | (rw [RT.len]; kernel_rfl) | (rw [rpL_len]; kernel_rfl) | (simp only [List.length_append, cw_len]; kernel_rfl) | (simp only [List.length_append, cw_len, RT.len, rpL_len]; kernel_rfl)) ?_
  go_wp2_with fail
  refine (RIs_any x1 y1 z1 false HB1.out _).mono ?_
  rintro e' w3 ⟨rfl, hf3⟩
  have st3 := st2.keep hf3
  clear st2 hf3
  go_wp2_with (with_reducible refine wl_stop (o := ⟨some 9, _, _, _, _, _⟩) ?_)
  refine wl_loadSt st3 1 rfl rfl rfl Try.underlying26 rfl rfl (by first | (rw [cw_len]; kernel_rfl) | (rw [RT.len]; kernel_rfl) | (rw [rpL_len]; kernel_rfl) | (simp only [List.length_append, cw_len]; kernel_rfl) | (simp only [List.length_append, cw_len, RT.len, rpL_len]; kernel_rfl)) ?_
  go_wp2_with fail
  refine (RIs_any x2 y2 z2 false HB2.out _).mono ?_
  rintro e' w4 ⟨rfl, hf4⟩
  have st4 := st3.keep hf4
  clear st3 hf4
  go_wp2_with fail
  refine wp_region_noPanic ?_
  refine wp_region_planG (fun wx => St Nob w wx [(g2, cw 4 (kN x1) ++ (cw 4 (kN y1) ++ cw 4 (kN z1)), 26), (g3, cw 4 (kN x2) ++ (cw 4 (kN y2) ++ cw 4 (kN z2)), 26)]) 28 (.w 1 (.t 2 (.w 3 (.t 4 (.w 7 (.t 8 (.w 9 (.t 10 (.r 0 (.r 5 (.r 6 (.r 11 (.w 12 (.w 13 (.w 15 (.t 16 (.w 17 (.t 18 (.w 21 (.t 22 (.w 23 (.t 24 (.r 14 (.r 19 (.r 20 (.r 25 (.w 26 (.w 27 (.m 28 .nil))))))))))))))))))))))))))))) (by kernel_rfl) (by kernel_rfl) st4.drew (fun _ _ _ _ _ h => h) ?_
  have hd4 := st4.drew
  clear st4
  refine planG_w (v := ?_) rfl rfl (fun wx => ?_) ?_
  rotate_left 1
  · (go_simp; with_reducible rfl)
  try simp only [Act.put, List.setIfInBounds_toArray, List.set_cons_zero, List.set_cons_succ]
  refine planG_arr rfl rfl rfl rfl (cw 4 (kN x1)) (fun wx hS => St.rangeL hS 0 rfl 0 _ (pt_x _ _ _)) Try.underlying24 rfl (by first | (rw [cw_len]; kernel_rfl) | (rw [RT.len]; kernel_rfl) | (rw [rpL_len]; kernel_rfl) | (simp only [List.length_append, cw_len]; kernel_rfl) | (simp only [List.length_append, cw_len, RT.len, rpL_len]; kernel_rfl)) ?_
  try simp only [Act.put, List.setIfInBounds_toArray, List.set_cons_zero, List.set_cons_succ]
  refine planG_w (v := ?_) rfl rfl (fun wx => ?_) ?_
  rotate_left 1
  · (go_simp; with_reducible rfl)
  try simp only [Act.put, List.setIfInBounds_toArray, List.set_cons_zero, List.set_cons_succ]
  refine planG_arr rfl rfl rfl rfl (cw 4 (kN z2)) (fun wx hS => St.rangeL hS 1 rfl 8 _ (pt_z _ _ _)) Try.underlying24 rfl (by first | (rw [cw_len]; kernel_rfl) | (rw [RT.len]; kernel_rfl) | (rw [rpL_len]; kernel_rfl) | (simp only [List.length_append, cw_len]; kernel_rfl) | (simp only [List.length_append, cw_len, RT.len, rpL_len]; kernel_rfl)) ?_
  try simp only [Act.put, List.setIfInBounds_toArray, List.set_cons_zero, List.set_cons_succ]
  refine planG_w (v := ?_) rfl rfl (fun wx => ?_) ?_
  rotate_left 1
  · (go_simp; with_reducible rfl)
  try simp only [Act.put, List.setIfInBounds_toArray, List.set_cons_zero, List.set_cons_succ]
  refine planG_arr rfl rfl rfl rfl (cw 4 (kN x2)) (fun wx hS => St.rangeL hS 1 rfl 0 _ (pt_x _ _ _)) Try.underlying24 rfl (by first | (rw [cw_len]; kernel_rfl) | (rw [RT.len]; kernel_rfl) | (rw [rpL_len]; kernel_rfl) | (simp only [List.length_append, cw_len]; kernel_rfl) | (simp only [List.length_append, cw_len, RT.len, rpL_len]; kernel_rfl)) ?_
  try simp only [Act.put, List.setIfInBounds_toArray, List.set_cons_zero, List.set_cons_succ]
  refine planG_w (v := ?_) rfl rfl (fun wx => ?_) ?_
  rotate_left 1
  · (go_simp; with_reducible rfl)
  try simp only [Act.put, List.setIfInBounds_toArray, List.set_cons_zero, List.set_cons_succ]
  refine planG_arr rfl rfl rfl rfl (cw 4 (kN z1)) (fun wx hS => St.rangeL hS 0 rfl 8 _ (pt_z _ _ _)) Try.underlying24 rfl (by first | (rw [cw_len]; kernel_rfl) | (rw [RT.len]; kernel_rfl) | (rw [rpL_len]; kernel_rfl) | (simp only [List.length_append, cw_len]; kernel_rfl) | (simp only [List.length_append, cw_len, RT.len, rpL_len]; kernel_rfl)) ?_
  try simp only [Act.put, List.setIfInBounds_toArray, List.set_cons_zero, List.set_cons_succ]
  refine planG_r rfl rfl ?_
  go_simp
  refine (RF_any _).mono ?_
  rintro e' w5 ⟨rfl, hf5⟩
  have st5 := hd4.keep hf5
  clear hf5
  clear hd4
  refine ⟨st5, ?_⟩
  try simp only [Act.put, List.setIfInBounds_toArray, List.set_cons_zero, List.set_cons_succ]
  refine planG_r rfl rfl ?_
  go_simp
  refine (KMul x1 z2 v1 Hv1.out _).mono ?_
  rintro e' w6 ⟨rfl, hf6⟩
  have st6 := st5.keep hf6
  clear hf6
  clear st5
  refine ⟨st6, ?_⟩
  try simp only [Act.put, List.setIfInBounds_toArray, List.set_cons_zero, List.set_cons_succ]
  refine planG_r rfl rfl ?_
  go_simp
  refine (RF_any _).mono ?_
  rintro e' w7 ⟨rfl, hf7⟩
  have st7 := st6.keep hf7
  clear hf7
  clear st6
  refine ⟨st7, ?_⟩
  try simp only [Act.put, List.setIfInBounds_toArray, List.set_cons_zero, List.set_cons_succ]
  refine planG_r rfl rfl ?_
  go_simp
  refine (KMul x2 z1 v2 Hv2.out _).mono ?_
  rintro e' w8 ⟨rfl, hf8⟩
  have st8 := st7.keep hf8
  clear hf8
  clear st7
  refine ⟨st8, ?_⟩
  try simp only [Act.put, List.setIfInBounds_toArray, List.set_cons_zero, List.set_cons_succ]
  refine planG_w rfl rfl (fun _ => exec_eqlK v1 v2 rfl rfl rfl HV.out _) ?_
  try simp only [Act.put, List.setIfInBounds_toArray, List.set_cons_zero, List.set_cons_succ]
  refine planG_w (v := ?_) rfl rfl (fun wx => ?_) ?_
  rotate_left 1
  · (go_simp; with_reducible rfl)
  try simp only [Act.put, List.setIfInBounds_toArray, List.set_cons_zero, List.set_cons_succ]
  refine planG_skip rfl rfl ?_
  try simp only [Act.put, List.setIfInBounds_toArray, List.set_cons_zero, List.set_cons_succ]
  refine planG_skipt rfl rfl ?_
  try simp only [Act.put, List.setIfInBounds_toArray, List.set_cons_zero, List.set_cons_succ]
  refine planG_skip rfl rfl ?_
  try simp only [Act.put, List.setIfInBounds_toArray, List.set_cons_zero, List.set_cons_succ]
  refine planG_skipt rfl rfl ?_
  try simp only [Act.put, List.setIfInBounds_toArray, List.set_cons_zero, List.set_cons_succ]
  refine planG_skip rfl rfl ?_
  try simp only [Act.put, List.setIfInBounds_toArray, List.set_cons_zero, List.set_cons_succ]
  refine planG_skipt rfl rfl ?_
  try simp only [Act.put, List.setIfInBounds_toArray, List.set_cons_zero, List.set_cons_succ]
  refine planG_skip rfl rfl ?_
  try simp only [Act.put, List.setIfInBounds_toArray, List.set_cons_zero, List.set_cons_succ]
  refine planG_skipt rfl rfl ?_
  try simp only [Act.put, List.setIfInBounds_toArray, List.set_cons_zero, List.set_cons_succ]
  refine planG_rskip rfl rfl ⟨st8, ?_⟩
  try simp only [Act.put, List.setIfInBounds_toArray, List.set_cons_zero, List.set_cons_succ]
  refine planG_rskip rfl rfl ⟨st8, ?_⟩
  try simp only [Act.put, List.setIfInBounds_toArray, List.set_cons_zero, List.set_cons_succ]
  refine planG_rskip rfl rfl ⟨st8, ?_⟩
  try simp only [Act.put, List.setIfInBounds_toArray, List.set_cons_zero, List.set_cons_succ]
  refine planG_rskip rfl rfl ⟨st8, ?_⟩
  try simp only [Act.put, List.setIfInBounds_toArray, List.set_cons_zero, List.set_cons_succ]
  refine planG_skip rfl rfl ?_
  try simp only [Act.put, List.setIfInBounds_toArray, List.set_cons_zero, List.set_cons_succ]
  refine planG_w (v := ?_) rfl rfl (fun wx => ?_) ?_
  rotate_left 1
  · (go_simp; with_reducible rfl)
  try simp only [Act.put, List.setIfInBounds_toArray, List.set_cons_zero, List.set_cons_succ]
  refine planG_m rfl rfl ?_
  go_simp
  try simp only [Act.put, List.setIfInBounds_toArray, List.set_cons_zero, List.set_cons_succ]
  refine planG_end ?_
  refine NoPanic.normal ?_
  have hfr := st8.fr
  clear st8
  go_wp2_with fail
  go_ret
  exact ⟨rfl, hfr⟩

set_option maxHeartbeats 16000000 in
set_option maxRecDepth 1000000 in
theorem RSame_y (x1 y1 z1 x2 y2 z2 : K) (hb1 : decide (z1 = 0) = false) (hb2 : decide (z2 = 0) = false) (v1 v2 u1 u2 : K) (ev1 : x1 * z2 = v1) (ev2 : x2 * z1 = v2) (eu1 : y1 * z2 = u1) (eu2 : y2 * z1 = u2) (hv : decide (v1 = v2) = true) (b : Bool) (hu : decide (u1 = u2) = b) (w : World) : Calls Try.prog 72 #[rpV x1 y1 z1, rpV x2 y2 z2] w fun e w' => e = .returned (.bool b) ∧ Fr Nob w w' := by
  have HB1 := Lib.hid hb1
  have HB2 := Lib.hid hb2
  clear hb1 hb2
  have Hv1 := Lib.hid ev1
  have Hv2 := Lib.hid ev2
  have Hu1 := Lib.hid eu1
  have Hu2 := Lib.hid eu2
  clear ev1 ev2 eu1 eu2
  have HV := Lib.hid hv
  have HU := Lib.hid hu
  clear hv hu
  unfold rpV rpL
  have st0 := St.start Nob w
  go_enter Try.func72, Try.ntmps72
  go_wp2_with (with_reducible refine wl_stop (o := ⟨some 2, _, _, _, _, _⟩) ?_)
  refine wl_boxS st0 rfl rfl rfl (cw 4 (kN x1) ++ (cw 4 (kN y1) ++ cw 4 (kN z1))) rfl ?_
  intro g2 w1 st1
  clear st0
  go_wp2_with (with_reducible refine wl_stop (o := ⟨some 3, _, _, _, _, _⟩) ?_)
  refine wl_boxS st1 rfl rfl rfl (cw 4 (kN x2) ++ (cw 4 (kN y2) ++ cw 4 (kN z2))) rfl ?_
  intro g3 w2 st2
  clear st1
  go_wp2_with (with_reducible refine wl_stop (o := ⟨some 7, _, _, _, _, _⟩) ?_)
  refine wl_loadSt st2 0 rfl rfl rfl Try.underlying26 rfl rfl (by first | (rw [cw_len]; kernel_rfl) | (rw [RT.len]; kernel_rfl) | (rw [rpL_len]; kernel_rfl) | (simp only [List.length_append, cw_len]; kernel_rfl) | (simp only [List.length_append, cw_len, RT.len, rpL_len]; kernel_rfl)) ?_
  go_wp2_with fail
  refine (RIs_any x1 y1 z1 false HB1.out _).mono ?_
  rintro e' w3 ⟨rfl, hf3⟩
  have st3 := st2.keep hf3
  clear st2 hf3
  go_wp2_with (with_reducible refine wl_stop (o := ⟨some 9, _, _, _, _, _⟩) ?_)
  refine wl_loadSt st3 1 rfl rfl rfl Try.underlying26 rfl rfl (by first | (rw [cw_len]; kernel_rfl) | (rw [RT.len]; kernel_rfl) | (rw [rpL_len]; kernel_rfl) | (simp only [List.length_append, cw_len]; kernel_rfl) | (simp only [List.length_append, cw_len, RT.len, rpL_len]; kernel_rfl)) ?_
  go_wp2_with fail
  refine (RIs_any x2 y2 z2 false HB2.out _).mono ?_
  rintro e' w4 ⟨rfl, hf4⟩
  have st4 := st3.keep hf4
  clear st3 hf4
  go_wp2_with fail
  refine wp_region_noPanic ?_
  refine wp_region_planG (fun wx => St Nob w wx [(g2, cw 4 (kN x1) ++ (cw 4 (kN y1) ++ cw 4 (kN z1)), 26), (g3, cw 4 (kN x2) ++ (cw 4 (kN y2) ++ cw 4 (kN z2)), 26)]) 28 (.w 1 (.t 2 (.w 3 (.t 4 (.w 7 (.t 8 (.w 9 (.t 10 (.r 0 (.r 5 (.r 6 (.r 11 (.w 12 (.w 13 (.w 15 (.t 16 (.w 17 (.t 18 (.w 21 (.t 22 (.w 23 (.t 24 (.r 14 (.r 19 (.r 20 (.r 25 (.w 26 (.w 27 (.m 28 .nil))))))))))))))))))))))))))))) (by kernel_rfl) (by kernel_rfl) st4.drew (fun _ _ _ _ _ h => h) ?_
  have hd4 := st4.drew
  clear st4
  refine planG_w (v := ?_) rfl rfl (fun wx => ?_) ?_
  rotate_left 1
  · (go_simp; with_reducible rfl)
  try simp only [Act.put, List.setIfInBounds_toArray, List.set_cons_zero, List.set_cons_succ]
  refine planG_arr rfl rfl rfl rfl (cw 4 (kN x1)) (fun wx hS => St.rangeL hS 0 rfl 0 _ (pt_x _ _ _)) Try.underlying24 rfl (by first | (rw [cw_len]; kernel_rfl) | (rw [RT.len]; kernel_rfl) | (rw [rpL_len]; kernel_rfl) | (simp only [List.length_append, cw_len]; kernel_rfl) | (simp only [List.length_append, cw_len, RT.len, rpL_len]; kernel_rfl)) ?_
  try simp only [Act.put, List.setIfInBounds_toArray, List.set_cons_zero, List.set_cons_succ]
  refine planG_w (v := ?_) rfl rfl (fun wx => ?_) ?_
  rotate_left 1
  · (go_simp; with_reducible rfl)
  try simp only [Act.put, List.setIfInBounds_toArray, List.set_cons_zero, List.set_cons_succ]
  refine planG_arr rfl rfl rfl rfl (cw 4 (kN z2)) (fun wx hS => St.rangeL hS 1 rfl 8 _ (pt_z _ _ _)) Try.underlying24 rfl (by first | (rw [cw_len]; kernel_rfl) | (rw [RT.len]; kernel_rfl) | (rw [rpL_len]; kernel_rfl) | (simp only [List.length_append, cw_len]; kernel_rfl) | (simp only [List.length_append, cw_len, RT.len, rpL_len]; kernel_rfl)) ?_
  try simp only [Act.put, List.setIfInBounds_toArray, List.set_cons_zero, List.set_cons_succ]
  refine planG_w (v := ?_) rfl rfl (fun wx => ?_) ?_
  rotate_left 1
  · (go_simp; with_reducible rfl)
  try simp only [Act.put, List.setIfInBounds_toArray, List.set_cons_zero, List.set_cons_succ]
  refine planG_arr rfl rfl rfl rfl (cw 4 (kN x2)) (fun wx hS => St.rangeL hS 1 rfl 0 _ (pt_x _ _ _)) Try.underlying24 rfl (by first | (rw [cw_len]; kernel_rfl) | (rw [RT.len]; kernel_rfl) | (rw [rpL_len]; kernel_rfl) | (simp only [List.length_append, cw_len]; kernel_rfl) | (simp only [List.length_append, cw_len, RT.len, rpL_len]; kernel_rfl)) ?_
  try simp only [Act.put, List.setIfInBounds_toArray, List.set_cons_zero, List.set_cons_succ]
  refine planG_w (v := ?_) rfl rfl (fun wx => ?_) ?_
  rotate_left 1
  · (go_simp; with_reducible rfl)
  try simp only [Act.put, List.setIfInBounds_toArray, List.set_cons_zero, List.set_cons_succ]
  refine planG_arr rfl rfl rfl rfl (cw 4 (kN z1)) (fun wx hS => St.rangeL hS 0 rfl 8 _ (pt_z _ _ _)) Try.underlying24 rfl (by first | (rw [cw_len]; kernel_rfl) | (rw [RT.len]; kernel_rfl) | (rw [rpL_len]; kernel_rfl) | (simp only [List.length_append, cw_len]; kernel_rfl) | (simp only [List.length_append, cw_len, RT.len, rpL_len]; kernel_rfl)) ?_
  try simp only [Act.put, List.setIfInBounds_toArray, List.set_cons_zero, List.set_cons_succ]
  refine planG_r rfl rfl ?_
  go_simp
  refine (RF_any _).mono ?_
  rintro e' w5 ⟨rfl, hf5⟩
  have st5 := hd4.keep hf5
  clear hf5
  clear hd4
  refine ⟨st5, ?_⟩
  try simp only [Act.put, List.setIfInBounds_toArray, List.set_cons_zero, List.set_cons_succ]
  refine planG_r rfl rfl ?_
  go_simp
  refine (KMul x1 z2 v1 Hv1.out _).mono ?_
  rintro e' w6 ⟨rfl, hf6⟩
  have st6 := st5.keep hf6
  clear hf6
  clear st5
  refine ⟨st6, ?_⟩
  try simp only [Act.put, List.setIfInBounds_toArray, List.set_cons_zero, List.set_cons_succ]
  refine planG_r rfl rfl ?_
  go_simp
  refine (RF_any _).mono ?_
  rintro e' w7 ⟨rfl, hf7⟩
  have st7 := st6.keep hf7
  clear hf7
  clear st6
  refine ⟨st7, ?_⟩
  try simp only [Act.put, List.setIfInBounds_toArray, List.set_cons_zero, List.set_cons_succ]
  refine planG_r rfl rfl ?_
  go_simp
  refine (KMul x2 z1 v2 Hv2.out _).mono ?_
  rintro e' w8 ⟨rfl, hf8⟩
  have st8 := st7.keep hf8
  clear hf8
  clear st7
  refine ⟨st8, ?_⟩
  try simp only [Act.put, List.setIfInBounds_toArray, List.set_cons_zero, List.set_cons_succ]
  refine planG_w rfl rfl (fun _ => exec_eqlK v1 v2 rfl rfl rfl HV.out _) ?_
  try simp only [Act.put, List.setIfInBounds_toArray, List.set_cons_zero, List.set_cons_succ]
  refine planG_w (v := ?_) rfl rfl (fun wx => ?_) ?_
  rotate_left 1
  · (go_simp; with_reducible rfl)
  try simp only [Act.put, List.setIfInBounds_toArray, List.set_cons_zero, List.set_cons_succ]
  refine planG_w (v := ?_) rfl rfl (fun wx => ?_) ?_
  rotate_left 1
  · (go_simp; with_reducible rfl)
  try simp only [Act.put, List.setIfInBounds_toArray, List.set_cons_zero, List.set_cons_succ]
  refine planG_arr rfl rfl rfl rfl (cw 4 (kN y1)) (fun wx hS => St.rangeL hS 0 rfl 4 _ (pt_y _ _ _)) Try.underlying24 rfl (by first | (rw [cw_len]; kernel_rfl) | (rw [RT.len]; kernel_rfl) | (rw [rpL_len]; kernel_rfl) | (simp only [List.length_append, cw_len]; kernel_rfl) | (simp only [List.length_append, cw_len, RT.len, rpL_len]; kernel_rfl)) ?_
  try simp only [Act.put, List.setIfInBounds_toArray, List.set_cons_zero, List.set_cons_succ]
  refine planG_w (v := ?_) rfl rfl (fun wx => ?_) ?_
  rotate_left 1
  · (go_simp; with_reducible rfl)
  try simp only [Act.put, List.setIfInBounds_toArray, List.set_cons_zero, List.set_cons_succ]
  refine planG_arr rfl rfl rfl rfl (cw 4 (kN z2)) (fun wx hS => St.rangeL hS 1 rfl 8 _ (pt_z _ _ _)) Try.underlying24 rfl (by first | (rw [cw_len]; kernel_rfl) | (rw [RT.len]; kernel_rfl) | (rw [rpL_len]; kernel_rfl) | (simp only [List.length_append, cw_len]; kernel_rfl) | (simp only [List.length_append, cw_len, RT.len, rpL_len]; kernel_rfl)) ?_
  try simp only [Act.put, List.setIfInBounds_toArray, List.set_cons_zero, List.set_cons_succ]
  refine planG_w (v := ?_) rfl rfl (fun wx => ?_) ?_
  rotate_left 1
  · (go_simp; with_reducible rfl)
  try simp only [Act.put, List.setIfInBounds_toArray, List.set_cons_zero, List.set_cons_succ]
  refine planG_arr rfl rfl rfl rfl (cw 4 (kN y2)) (fun wx hS => St.rangeL hS 1 rfl 4 _ (pt_y _ _ _)) Try.underlying24 rfl (by first | (rw [cw_len]; kernel_rfl) | (rw [RT.len]; kernel_rfl) | (rw [rpL_len]; kernel_rfl) | (simp only [List.length_append, cw_len]; kernel_rfl) | (simp only [List.length_append, cw_len, RT.len, rpL_len]; kernel_rfl)) ?_
  try simp only [Act.put, List.setIfInBounds_toArray, List.set_cons_zero, List.set_cons_succ]
  refine planG_w (v := ?_) rfl rfl (fun wx => ?_) ?_
  rotate_left 1
  · (go_simp; with_reducible rfl)
  try simp only [Act.put, List.setIfInBounds_toArray, List.set_cons_zero, List.set_cons_succ]
  refine planG_arr rfl rfl rfl rfl (cw 4 (kN z1)) (fun wx hS => St.rangeL hS 0 rfl 8 _ (pt_z _ _ _)) Try.underlying24 rfl (by first | (rw [cw_len]; kernel_rfl) | (rw [RT.len]; kernel_rfl) | (rw [rpL_len]; kernel_rfl) | (simp only [List.length_append, cw_len]; kernel_rfl) | (simp only [List.length_append, cw_len, RT.len, rpL_len]; kernel_rfl)) ?_
  try simp only [Act.put, List.setIfInBounds_toArray, List.set_cons_zero, List.set_cons_succ]
  refine planG_r rfl rfl ?_
  go_simp
  refine (RF_any _).mono ?_
  rintro e' w9 ⟨rfl, hf9⟩
  have st9 := st8.keep hf9
  clear hf9
  clear st8
  refine ⟨st9, ?_⟩
  try simp only [Act.put, List.setIfInBounds_toArray, List.set_cons_zero, List.set_cons_succ]
  refine planG_r rfl rfl ?_
  go_simp
  refine (KMul y1 z2 u1 Hu1.out _).mono ?_
  rintro e' w10 ⟨rfl, hf10⟩
  have st10 := st9.keep hf10
  clear hf10
  clear st9
  refine ⟨st10, ?_⟩
  try simp only [Act.put, List.setIfInBounds_toArray, List.set_cons_zero, List.set_cons_succ]
  refine planG_r rfl rfl ?_
  go_simp
  refine (RF_any _).mono ?_
  rintro e' w11 ⟨rfl, hf11⟩
  have st11 := st10.keep hf11
  clear hf11
  clear st10
  refine ⟨st11, ?_⟩
  try simp only [Act.put, List.setIfInBounds_toArray, List.set_cons_zero, List.set_cons_succ]
  refine planG_r rfl rfl ?_
  go_simp
  refine (KMul y2 z1 u2 Hu2.out _).mono ?_
  rintro e' w12 ⟨rfl, hf12⟩
  have st12 := st11.keep hf12
  clear hf12
  clear st11
  refine ⟨st12, ?_⟩
  try simp only [Act.put, List.setIfInBounds_toArray, List.set_cons_zero, List.set_cons_succ]
  refine planG_w rfl rfl (fun _ => exec_eqlK u1 u2 rfl rfl rfl HU.out _) ?_
  try simp only [Act.put, List.setIfInBounds_toArray, List.set_cons_zero, List.set_cons_succ]
  refine planG_w (v := ?_) rfl rfl (fun wx => ?_) ?_
  rotate_left 1
  · (go_simp; with_reducible rfl)
  try simp only [Act.put, List.setIfInBounds_toArray, List.set_cons_zero, List.set_cons_succ]
  refine planG_m rfl rfl ?_
  go_simp
  try simp only [Act.put, List.setIfInBounds_toArray, List.set_cons_zero, List.set_cons_succ]
  refine planG_end ?_
  refine NoPanic.normal ?_
  have hfr := st12.fr
  clear st12
  go_wp2_with fail
  go_ret
  exact ⟨rfl, hfr⟩

theorem nm_eq_iff {x1 y1 z1 x2 y2 z2 : K} (h1 : z1 ≠ 0) (h2 : z2 ≠ 0) : nm x1 y1 z1 = nm x2 y2 z2 ↔ (x1 * z2 = x2 * z1 ∧ y1 * z2 = y2 * z1) := by
  rw [nm_nz h1, nm_nz h2]
  have k1 := mul_kinv h1
  have k2 := mul_kinv h2
  generalize kinv z1 = a at *
  generalize kinv z2 = b at *
  constructor
  · intro h
    injection h with hx hy
    constructor
    · grind -lia -linarith
    · grind -lia -linarith
  · rintro ⟨hx, hy⟩
    have e1 : x1 * a = x2 * b := by grind -lia -linarith
    have e2 : y1 * a = y2 * b := by grind -lia -linarith
    rw [e1, e2]
open Classical in
theorem RSame_c (s t : RT) (w : World) : Calls Try.prog 72 #[.agg s.L.toArray, .agg t.L.toArray] w fun e w' => e = .returned (.bool (decide (s.pt = t.pt))) ∧ Fr Nob w w' := by
  have hs : s.L = rpL s.x s.y s.z := by unfold RT.L; rfl
  have ht : t.L = rpL t.x t.y t.z := by unfold RT.L; rfl
  have ps : s.pt = nm s.x s.y s.z := rfl
  have pt : t.pt = nm t.x t.y t.z := rfl
  rw [hs, ht, ps, pt]
  generalize s.x = x1
  generalize s.y = y1
  generalize s.z = z1
  generalize t.x = x2
  generalize t.y = y2
  generalize t.z = z2
  clear hs ht ps pt
  by_cases h1 : z1 = 0
  · by_cases h2 : z2 = 0
    · rw [nm_z h1, nm_z h2, decide_eq_true rfl]
      exact RSame_tt x1 y1 z1 x2 y2 z2 (decide_eq_true h1) (decide_eq_true h2) w
    · rw [nm_z h1, nm_nz h2, decide_eq_false (by intro h; cases h)]
      exact RSame_tf x1 y1 z1 x2 y2 z2 (decide_eq_true h1) (decide_eq_false h2) w
  · by_cases h2 : z2 = 0
    · rw [nm_nz h1, nm_z h2, decide_eq_false (by intro h; cases h)]
      exact RSame_ft x1 y1 z1 x2 y2 z2 (decide_eq_false h1) (decide_eq_true h2) w
    · have hi := nm_eq_iff (x1 := x1) (y1 := y1) (x2 := x2) (y2 := y2) h1 h2
      by_cases hx : x1 * z2 = x2 * z1
      · by_cases hy : y1 * z2 = y2 * z1
        · rw [decide_eq_true (hi.2 ⟨hx, hy⟩)]
          exact RSame_y x1 y1 z1 x2 y2 z2 (decide_eq_false h1) (decide_eq_false h2) _ _ _ _ rfl rfl rfl rfl (decide_eq_true hx) true (decide_eq_true hy) w
        · rw [decide_eq_false (fun h => hy (hi.1 h).2)]
          exact RSame_y x1 y1 z1 x2 y2 z2 (decide_eq_false h1) (decide_eq_false h2) _ _ _ _ rfl rfl rfl rfl (decide_eq_true hx) false (decide_eq_false hy) w
      · rw [decide_eq_false (fun h => hx (hi.1 h).1)]
        exact RSame_x x1 y1 z1 x2 y2 z2 (decide_eq_false h1) (decide_eq_false h2) _ _ rfl rfl (decide_eq_false hx) w
end Go.Proofs.Ytdbgddngapminaa

/- The law SigmaExtracts. -/
namespace Mvp
def exE (m : Md) (l1 l2 l3 l4 : List UInt8) : Nat := if numsB m [l1, l2, l3, l4] = true then (if (beN l1 == beN l3) = true then 6 else 0) else 3
def exS (m : Md) (l1 l2 l3 l4 : List UInt8) : List UInt8 := if numsB m [l1, l2, l3, l4] = true then (if (beN l1 == beN l3) = true then [] else be32 (secN m.M (beN l1) (beN l2) (beN l3) (beN l4))) else []
end Mvp
namespace Go.Proofs.Ytdbgddngapminaa
open Go.RowKit Go.Mv Mvp
theorem RdB.none0 (w : World) (a : Option Addr) : RdB w a 0 [] := ⟨rfl, .inl rfl⟩
theorem Extract_all (m : Md) (hk : KindOf 1 m) (v1 : Value) (l1 : List UInt8) (v2 : Value) (l2 : List UInt8) (v3 : Value) (l3 : List UInt8) (v4 : Value) (l4 : List UInt8) (w : World) (h1 : BPart w v1 l1) (h2 : BPart w v2 l2) (h3 : BPart w v3 l3) (h4 : BPart w v4 l4) :
    Calls Try.prog 31 #[v1, v2, v3, v4] w fun e w' => ∃ a n c, e = .returned (.tuple #[.slice a n c, .int .i64 (exE m l1 l2 l3 l4 : Nat)]) ∧ RdB w' a n (exS m l1 l2 l3 l4) ∧ Fr Nob w w' := by
  cases hg : numsB m [l1, l2, l3, l4]
  · refine (Extract_bad m hk v1 l1 v2 l2 v3 l3 v4 l4 w h1 h2 h3 h4 hg).mono fun e w' h => ?_
    refine ⟨none, 0, 0, ?_, ?_, h.2⟩
    · rw [h.1]; simp [exE, hg]
    · simp only [exS, hg]; exact RdB.none0 _ _
  · have hn := hg
    unfold numsB at hn
    simp only [List.all_cons, List.all_nil, Bool.and_true, Bool.and_eq_true] at hn
    have e1 : (beN l1 % m.M == beN l3 % m.M) = (beN l1 == beN l3) := by rw [Nat.mod_eq_of_lt (numB_lt m _ hn.1), Nat.mod_eq_of_lt (numB_lt m _ hn.2.2.1)]
    cases he : (beN l1 == beN l3)
    · refine (Extract_ok m hk v1 l1 v2 l2 v3 l3 v4 l4 w h1 h2 h3 h4 hg (by rw [e1, he])).mono fun e w' h => ?_
      obtain ⟨a, c, h5, _, h6, h7⟩ := h
      refine ⟨a, 32, c, ?_, ?_, h7⟩
      · rw [h5]; simp only [exE, hg, he]; rfl
      · simp only [exS, hg, he]; exact h6
    · refine (Extract_none m hk v1 l1 v2 l2 v3 l3 v4 l4 w h1 h2 h3 h4 hg (by rw [e1, he])).mono fun e w' h => ?_
      refine ⟨none, 0, 0, ?_, ?_, h.2⟩
      · rw [h.1]; simp only [exE, hg, he]; rfl
      · simp only [exS, hg, he]; exact RdB.none0 _ _
theorem BPart.ofOwn {w : World} {base : Nat} {v : Value} {n : Nat} {l : List UInt8} (h : Own w base 5 1 v n (bs l)) : BPart w v l := by
  obtain ⟨a, c, rfl, hc, hr, -⟩ := h.form
  exact ⟨a, n, c, rfl, hc, by rw [Nat.mul_one] at hr; exact hr⟩
attribute [local irreducible] limbs lw mix cw cSub cAdd cMul foldC valFrom beN laid be32 powm montT mstep elN mdL elCells numsB numB secN exE exS
end Go.Proofs.Ytdbgddngapminaa

/- GroupLaw, plain: the law's numbers; contracts at points that are known to be points. -/
namespace Mvp
theorem beN_cons (x : UInt8) (l : List UInt8) : beN (x :: l) = x.toNat * 256 ^ l.length + beN l := by
  have := beN_append [x] l
  simpa [beN] using this
end Mvp
namespace Go.Proofs.Ytdbgddngapminaa
open Go.RowKit Go.Mv Mvp Mvq
/-- a slice of the call's own that reads as a point's bytes -/
def PtB (w : World) (a : Option Addr) (c : Nat) (p : Pt) : Prop := BPart w (.slice a 33 c) (wrPt p)
theorem PtB.still {w w' : World} {a : Option Addr} {c : Nat} {p : Pt} (h : PtB w a c p) (hf : Fr Nob w w') : PtB w' a c p := BPart.still h hf
theorem PtB.of {w w' : World} {v : Value} {p : Pt} (h : OwnB1 w w' v (wrPt p)) : ∃ a c, v = .slice a 33 c ∧ PtB w' a c p := by
  obtain ⟨a, n, c, rfl, hc, hr⟩ := h.part
  have : n = 33 := by have := hr.len; rw [wrPt_len] at this; exact this.symm
  subst this
  exact ⟨a, c, rfl, a, 33, c, rfl, hc, hr⟩
theorem PtB.rd {w : World} {a : Option Addr} {c : Nat} {p : Pt} (h : PtB w a c p) : RdB w a 33 (wrPt p) := by
  obtain ⟨a', n, c', he, hc, hr⟩ := h
  cases he
  exact hr
theorem Times_p {p r : Pt} {l : List UInt8} (hl : numB mQ l = true) (hp : onC p) (hr : pmul (beN l) p = r) (v : Value) (a : Option Addr) (c : Nat) (w : World) (hv : BPart w v l) (ha : PtB w a c p) :
    Calls Try.prog 16 #[v, .slice a 33 c] w fun e w' => ∃ a' c', e = .returned (.tuple #[.slice a' 33 c', .int .i64 0]) ∧ PtB w' a' c' r ∧ Fr Nob w w' := by
  subst hr
  refine (GTimes_u _ _ _ _ w hv ha).mono ?_
  rintro e w' ⟨v, rfl, h2, h3⟩
  obtain ⟨o1, e1⟩ := rd_wr hp
  simp only [tS, tC, hl, o1, e1, Bool.and_self, if_true] at h2 ⊢
  obtain ⟨a', c', rfl, h4⟩ := PtB.of h2
  exact ⟨a', c', rfl, h4, h3⟩
theorem Base_p (w : World) : Calls Try.prog 23 #[] w fun e w' => ∃ a c, e = .returned (.slice a 33 c) ∧ PtB w' a c gP ∧ Fr Nob w w' := by
  refine (GBase_u w).mono ?_
  rintro e w' ⟨v, rfl, h2, h3⟩
  obtain ⟨a', c', rfl, h4⟩ := PtB.of h2
  exact ⟨a', c', rfl, h4, h3⟩
theorem gP_on : onC gP := by unfold gP; exact base_on
end Go.Proofs.Ytdbgddngapminaa

/- The reference's points: Read. -/
namespace Go.Proofs.Ytdbgddngapminaa
open Go.RowKit Go.Mv Mvp Mvq
theorem exec_eqlS {o : Oper} {a : Act} {p q : Operand} {T U : TypeId} {s t : ByteArray} (ho : o.op = .binOp .eql T p q U) (hp : a.eval p = .string s) (hq : a.eval q = .string t) {b : Bool} (hb : decide (s = t) = b) (w : World) :
    (execOp a.eval o).run Try.prog w = .ok (.value (.bool b)) w := by
  subst hb
  exact exec_binop ho hp hq w (by go_simp) (by
    go_simp
    rw [Bool.eq_iff_iff, beq_iff_eq, decide_eq_true_eq, toList_data, toList_data]
    exact ⟨fun h => ByteArray.ext (Array.toList_inj.1 h), fun h => by rw [h]⟩)
attribute [local irreducible] limbs lw mix cw cSub cAdd cMul foldC valFrom beN laid be32 powm montT mstep elN mdL numB rtV rtOk kN kc kinv wrPt addR noR timesR tmsR RT.L gXn gYn
set_option maxHeartbeats 16000000 in
set_option maxRecDepth 1000000 in
theorem RRead_zero (s : ByteArray) (hz : decide (s = (mkS (List.replicate 33 0))) = true) (w : World) : Calls Try.prog 9 #[.string s] w fun e w' => e = .returned (.tuple #[.agg noR.L.toArray, .bool true]) ∧ Fr Nob w w' := by
  have HZ := Lib.hid hz
  clear hz
  have st0 := St.start Nob w
  go_enter Try.func9, Try.ntmps9
  go_wp2_with (with_reducible refine wl_stop (o := ⟨some 2, _, _, _, _, _⟩) ?_)
  refine wl_allocS st0 rfl rfl (z := .agg #[.int .u64 0, .int .u64 0, .int .u64 0, .int .u64 0, .int .u64 0, .int .u64 0, .int .u64 0, .int .u64 0, .int .u64 0, .int .u64 0, .int .u64 0, .int .u64 0]) (by kernel_rfl) (cw 12 0) (by rw [cw_zero]; rfl) ?_
  intro g2 w1 st1
  clear st0
  go_wp2_with (with_reducible refine wl_stop (o := ⟨some 8, _, _, _, _, _⟩) ?_)
  refine wl_make rfl rfl Try.underlying34 info_u8 rfl rfl rfl 33 33 (by simp) (by simp) (by omega) (by omega) (by unfold maxLen; omega) ?_
  intro w2 hg2 hf2 hz2
  clear hz2
  have st2 := st1.new hf2 hg2 (Nat.le_refl _)
  clear st1 hg2 hf2
  rw [z_u8] at st2
  go_wp2_with (with_reducible refine wl_stop (o := ⟨some 9, _, _, _, _, _⟩) ?_)
  refine wl_string rfl rfl Try.underlying34 Try.underlying5 Try.underlying9 rfl (l := List.replicate 33 0) (Rd.whole (st2.at 1 rfl)) ?_
  have st3 := st2.less (List.sublist_append_left _ _)
  clear st2
  go_wp2_with (with_reducible refine wl_stop (o := ⟨some 10, _, _, _, _, _⟩) ?_)
  refine wl_exec rfl (exec_eqlS rfl rfl rfl HZ.out _) ?_
  go_wp2_with fail
  refine (RNone_c _).mono ?_
  rintro e' w4 ⟨rfl, hf4⟩
  have st4 := st3.keep hf4
  clear st3 hf4
  go_wp2_with (with_reducible refine wl_stop (o := ⟨none, _, _, _, _, _⟩) ?_)
  refine wl_storeS st4 0 rfl rfl rfl rfl rfl (by first | (simp [cw_len]; done) | (simp [RT.len]; done) | (simp [rpL_len]; done) | (simp [cw_len, RT.len]; done) | (simp [cw_len, rpL_len]; done) | simp [cw_len, RT.len, rpL_len]) (by kernel_rfl) (RT.one _) ?_
  intro w5 st5
  clear st4
  have hr := st5.at 0 rfl
  have hfr := st5.fr
  clear st5
  go_wp2_with fail
  exact bodyPost_ret (results_st2 rfl rfl hr Try.underlying26 rfl (by kernel_rfl) rfl) rfl ⟨rfl, hfr⟩

set_option maxHeartbeats 16000000 in
set_option maxRecDepth 1000000 in
theorem RRead_len (s : ByteArray) (hz : decide (s = (mkS (List.replicate 33 0))) = false) (hl : ((s.size : Int) != 33) = true) (w : World) : Calls Try.prog 9 #[.string s] w fun e w' => e = .returned (.tuple #[rpV 0 0 0, .bool false]) ∧ Fr Nob w w' := by
  have HZ := Lib.hid hz
  clear hz
  have st0 := St.start Nob w
  go_enter Try.func9, Try.ntmps9
  go_wp2_with (with_reducible refine wl_stop (o := ⟨some 2, _, _, _, _, _⟩) ?_)
  refine wl_allocS st0 rfl rfl (z := .agg #[.int .u64 0, .int .u64 0, .int .u64 0, .int .u64 0, .int .u64 0, .int .u64 0, .int .u64 0, .int .u64 0, .int .u64 0, .int .u64 0, .int .u64 0, .int .u64 0]) (by kernel_rfl) (cw 12 0) (by rw [cw_zero]; rfl) ?_
  intro g2 w1 st1
  clear st0
  go_wp2_with (with_reducible refine wl_stop (o := ⟨some 8, _, _, _, _, _⟩) ?_)
  refine wl_make rfl rfl Try.underlying34 info_u8 rfl rfl rfl 33 33 (by simp) (by simp) (by omega) (by omega) (by unfold maxLen; omega) ?_
  intro w2 hg2 hf2 hz2
  clear hz2
  have st2 := st1.new hf2 hg2 (Nat.le_refl _)
  clear st1 hg2 hf2
  rw [z_u8] at st2
  go_wp2_with (with_reducible refine wl_stop (o := ⟨some 9, _, _, _, _, _⟩) ?_)
  refine wl_string rfl rfl Try.underlying34 Try.underlying5 Try.underlying9 rfl (l := List.replicate 33 0) (Rd.whole (st2.at 1 rfl)) ?_
  have st3 := st2.less (List.sublist_append_left _ _)
  clear st2
  go_wp2_with (with_reducible refine wl_stop (o := ⟨some 10, _, _, _, _, _⟩) ?_)
  refine wl_exec rfl (exec_eqlS rfl rfl rfl HZ.out _) ?_
  go_wp2_with (with_reducible refine wl_stop (o := ⟨some 25, _, _, _, _, _⟩) ?_)
  refine wl_buildL rfl rfl _ built_rp0 ?_
  go_wp2_with (with_reducible refine wl_stop (o := ⟨none, _, _, _, _, _⟩) ?_)
  refine wl_storeS st3 0 rfl rfl rfl rfl rfl (by first | (simp [cw_len]; done) | (simp [RT.len]; done) | (simp [rpL_len]; done) | (simp [cw_len, RT.len]; done) | (simp [cw_len, rpL_len]; done) | simp [cw_len, RT.len, rpL_len]) (by kernel_rfl) (pt_one _ _ _) ?_
  intro w4 st4
  clear st3
  have hr := st4.at 0 rfl
  have hfr := st4.fr
  clear st4
  go_wp2_with fail
  exact bodyPost_ret (results_st2 rfl rfl hr Try.underlying26 rfl (by kernel_rfl) rfl) rfl ⟨by unfold rpV rpL; rw [kN_zero]; rfl, hfr⟩

set_option maxHeartbeats 16000000 in
set_option maxRecDepth 1000000 in
theorem RRead_head (s : ByteArray) (hz : decide (s = (mkS (List.replicate 33 0))) = false) (hl : s.size = 33) (q : Nat) (hb : ∀ h : 0 < s.size, ((s[0]'h).toNat : Int) = (q : Int)) (h2 : ((q : Int) != 2) = true) (h3 : ((q : Int) != 3) = true) (w : World) : Calls Try.prog 9 #[.string s] w fun e w' => e = .returned (.tuple #[rpV 0 0 0, .bool false]) ∧ Fr Nob w w' := by
  have HZ := Lib.hid hz
  clear hz
  have hl33 : ((s.size : Int) != 33) = false := by rw [hl]; rfl
  have h0 : (0 : Int) < (s.size : Int) := by omega
  have h00 : 0 < s.size := by omega
  have h1 : (1 : Int) ≤ (s.size : Int) := by omega
  have hb0 := hb h00
  clear hl hb
  have st0 := St.start Nob w
  go_enter Try.func9, Try.ntmps9
  go_wp2_with (with_reducible refine wl_stop (o := ⟨some 2, _, _, _, _, _⟩) ?_)
  refine wl_allocS st0 rfl rfl (z := .agg #[.int .u64 0, .int .u64 0, .int .u64 0, .int .u64 0, .int .u64 0, .int .u64 0, .int .u64 0, .int .u64 0, .int .u64 0, .int .u64 0, .int .u64 0, .int .u64 0]) (by kernel_rfl) (cw 12 0) (by rw [cw_zero]; rfl) ?_
  intro g2 w1 st1
  clear st0
  go_wp2_with (with_reducible refine wl_stop (o := ⟨some 8, _, _, _, _, _⟩) ?_)
  refine wl_make rfl rfl Try.underlying34 info_u8 rfl rfl rfl 33 33 (by simp) (by simp) (by omega) (by omega) (by unfold maxLen; omega) ?_
  intro w2 hg2 hf2 hz2
  clear hz2
  have st2 := st1.new hf2 hg2 (Nat.le_refl _)
  clear st1 hg2 hf2
  rw [z_u8] at st2
  go_wp2_with (with_reducible refine wl_stop (o := ⟨some 9, _, _, _, _, _⟩) ?_)
  refine wl_string rfl rfl Try.underlying34 Try.underlying5 Try.underlying9 rfl (l := List.replicate 33 0) (Rd.whole (st2.at 1 rfl)) ?_
  have st3 := st2.less (List.sublist_append_left _ _)
  clear st2
  go_wp2_with (with_reducible refine wl_stop (o := ⟨some 10, _, _, _, _, _⟩) ?_)
  refine wl_exec rfl (exec_eqlS rfl rfl rfl HZ.out _) ?_
  go_wp2_with (with_reducible refine wl_stop (o := ⟨some 25, _, _, _, _, _⟩) ?_)
  refine wl_buildL rfl rfl _ built_rp0 ?_
  go_wp2_with (with_reducible refine wl_stop (o := ⟨none, _, _, _, _, _⟩) ?_)
  refine wl_storeS st3 0 rfl rfl rfl rfl rfl (by first | (simp [cw_len]; done) | (simp [RT.len]; done) | (simp [rpL_len]; done) | (simp [cw_len, RT.len]; done) | (simp [cw_len, rpL_len]; done) | simp [cw_len, RT.len, rpL_len]) (by kernel_rfl) (pt_one _ _ _) ?_
  intro w4 st4
  clear st3
  have hr := st4.at 0 rfl
  have hfr := st4.fr
  clear st4
  go_wp2_with fail
  exact bodyPost_ret (results_st2 rfl rfl hr Try.underlying26 rfl (by kernel_rfl) rfl) rfl ⟨by unfold rpV rpL; rw [kN_zero]; rfl, hfr⟩

set_option maxHeartbeats 16000000 in
set_option maxRecDepth 1000000 in
theorem RRead_num2 (s : ByteArray) (hz : decide (s = (mkS (List.replicate 33 0))) = false) (hl : s.size = 33) (hb : ∀ h : 0 < s.size, ((s[0]'h).toNat : Int) = 2) (hn : ∀ wx, Calls Try.prog 11 #[fv mP.M, .string (s.extract 1 s.size)] wx fun e w' => ∃ N : Nat, e = .returned (.tuple #[i4 N, .bool false]) ∧ True ∧ Fr Nob wx w') (w : World) : Calls Try.prog 9 #[.string s] w fun e w' => e = .returned (.tuple #[rpV 0 0 0, .bool false]) ∧ Fr Nob w w' := by
  have HZ := Lib.hid hz
  clear hz
  have hl33 : ((s.size : Int) != 33) = false := by rw [hl]; rfl
  have h0 : (0 : Int) < (s.size : Int) := by omega
  have h00 : 0 < s.size := by omega
  have h1 : (1 : Int) ≤ (s.size : Int) := by omega
  have hb0 := hb h00
  clear hl hb
  have HN := Lib.hid hn
  clear hn
  have st0 := St.start Nob w
  go_enter Try.func9, Try.ntmps9
  go_wp2_with (with_reducible refine wl_stop (o := ⟨some 2, _, _, _, _, _⟩) ?_)
  refine wl_allocS st0 rfl rfl (z := .agg #[.int .u64 0, .int .u64 0, .int .u64 0, .int .u64 0, .int .u64 0, .int .u64 0, .int .u64 0, .int .u64 0, .int .u64 0, .int .u64 0, .int .u64 0, .int .u64 0]) (by kernel_rfl) (cw 12 0) (by rw [cw_zero]; rfl) ?_
  intro g2 w1 st1
  clear st0
  go_wp2_with (with_reducible refine wl_stop (o := ⟨some 8, _, _, _, _, _⟩) ?_)
  refine wl_make rfl rfl Try.underlying34 info_u8 rfl rfl rfl 33 33 (by simp) (by simp) (by omega) (by omega) (by unfold maxLen; omega) ?_
  intro w2 hg2 hf2 hz2
  clear hz2
  have st2 := st1.new hf2 hg2 (Nat.le_refl _)
  clear st1 hg2 hf2
  rw [z_u8] at st2
  go_wp2_with (with_reducible refine wl_stop (o := ⟨some 9, _, _, _, _, _⟩) ?_)
  refine wl_string rfl rfl Try.underlying34 Try.underlying5 Try.underlying9 rfl (l := List.replicate 33 0) (Rd.whole (st2.at 1 rfl)) ?_
  have st3 := st2.less (List.sublist_append_left _ _)
  clear st2
  go_wp2_with (with_reducible refine wl_stop (o := ⟨some 10, _, _, _, _, _⟩) ?_)
  refine wl_exec rfl (exec_eqlS rfl rfl rfl HZ.out _) ?_
  go_wp2_with fail
  refine wp_region_noPanic ?_
  refine wp_region_lad st3 9 [.o 7, .w 1, .w 2, .c 0, .c 3, .w 4, .w 5, .w 6, .j 7] (.r 8 (.m 9 .nil)) (by kernel_rfl) (by kernel_rfl) (fun _ _ _ _ _ h => h) ?_
  clear st3
  refine lad_o rfl rfl rfl z_rn (cw 4 0) rfl ?_
  try simp only [Act.put, List.setIfInBounds_toArray, List.set_cons_zero, List.set_cons_succ]
  iterate 2 (refine lad_w (v := ?_) rfl rfl (fun xq wx => ?_) ?_; rotate_left 1; · (go_simp; with_reducible rfl); try simp only [Act.put, List.setIfInBounds_toArray, List.set_cons_zero, List.set_cons_succ])
  refine lad_call rfl rfl rfl Try.call36 (fun w hS hR => RF_any _) (fun _ => rfl) ?_
  try simp only [Act.put, List.setIfInBounds_toArray, List.set_cons_zero, List.set_cons_succ]
  refine lad_callX (X := Nat) (fun N => .tuple #[i4 N, .bool false]) (fun _ _ => True) (fun _ _ _ _ _ => trivial) rfl rfl rfl Try.call11 (fun w hS hR => HN.out _) (fun _ => rfl) fun N => ?_
  try simp only [Act.put, List.setIfInBounds_toArray, List.set_cons_zero, List.set_cons_succ]
  iterate 3 (refine lad_w (v := ?_) rfl rfl (fun xq wx => ?_) ?_; rotate_left 1; · (go_simp; with_reducible rfl); try simp only [Act.put, List.setIfInBounds_toArray, List.set_cons_zero, List.set_cons_succ])
  refine lad_j List.mem_cons_self fun g4 => ?_
  simp only [upd, reduceIte]
  try simp only [Nat.reduceEqDiff, reduceIte]
  refine lad_end fun xq w4 st4 hR => ?_
  try dsimp only
  clear hR xq
  refine plan_r rfl rfl ?_
  refine wp_storeS st4 1 rfl rfl rfl rfl (by first | (simp [cw_len]; done) | (simp [RT.len]; done) | (simp [rpL_len]; done) | (simp [cw_len, RT.len]; done) | (simp [cw_len, rpL_len]; done) | simp [cw_len, RT.len, rpL_len]) (by kernel_rfl) (cw_one _ _) ?_
  intro w5 st5
  repeat (first | simp only [List.cons_append] at st5 | simp only [List.nil_append] at st5 | simp only [List.set_cons_succ] at st5 | simp only [List.set_cons_zero] at st5)
  clear st4
  refine ⟨by first | exact st5 | exact St.less st5 (by simp), ?_⟩
  try simp only [Act.put]
  refine plan_m rfl rfl ?_
  go_simp
  try simp only [Act.put, List.setIfInBounds_toArray, List.set_cons_zero, List.set_cons_succ]
  refine plan_end ?_
  refine NoPanic.normal ?_
  go_wp2_with (with_reducible refine wl_stop (o := ⟨some 35, _, _, _, _, _⟩) ?_)
  refine wl_buildL rfl rfl _ built_rp0 ?_
  go_wp2_with (with_reducible refine wl_stop (o := ⟨none, _, _, _, _, _⟩) ?_)
  refine wl_storeS st5 0 rfl rfl rfl rfl rfl (by first | (simp [cw_len]; done) | (simp [RT.len]; done) | (simp [rpL_len]; done) | (simp [cw_len, RT.len]; done) | (simp [cw_len, rpL_len]; done) | simp [cw_len, RT.len, rpL_len]) (by kernel_rfl) (pt_one _ _ _) ?_
  intro w6 st6
  clear st5
  have hr := st6.at 0 rfl
  have hfr := st6.fr
  clear st6
  go_wp2_with fail
  exact bodyPost_ret (results_st2 rfl rfl hr Try.underlying26 rfl (by kernel_rfl) rfl) rfl ⟨by unfold rpV rpL; rw [kN_zero]; rfl, hfr⟩

set_option maxHeartbeats 16000000 in
set_option maxRecDepth 1000000 in
theorem RRead_pt2 (s : ByteArray) (hz : decide (s = (mkS (List.replicate 33 0))) = false) (hl : s.size = 33) (hb : ∀ h : 0 < s.size, ((s[0]'h).toNat : Int) = 2) (X Y : K) (b : Bool) (hn : ∀ wx, Calls Try.prog 11 #[fv mP.M, .string (s.extract 1 s.size)] wx fun e w' => e = .returned (.tuple #[i4 (kN X), .bool true]) ∧ Fr Nob wx w') (ha : ∀ wx, Calls Try.prog 37 #[i4 (kN X)] wx fun e w' => e = .returned (.tuple #[rpV X Y 1, .bool b]) ∧ Fr Nob wx w') (w : World) : Calls Try.prog 9 #[.string s] w fun e w' => e = .returned (.tuple #[rpV X Y 1, .bool b]) ∧ Fr Nob w w' := by
  have HZ := Lib.hid hz
  clear hz
  have hl33 : ((s.size : Int) != 33) = false := by rw [hl]; rfl
  have h0 : (0 : Int) < (s.size : Int) := by omega
  have h00 : 0 < s.size := by omega
  have h1 : (1 : Int) ≤ (s.size : Int) := by omega
  have hb0 := hb h00
  clear hl hb
  have HN := Lib.hid hn
  unfold rpV rpL at ha
  have HAT := Lib.hid ha
  clear hn ha
  unfold rpV rpL
  have st0 := St.start Nob w
  go_enter Try.func9, Try.ntmps9
  go_wp2_with (with_reducible refine wl_stop (o := ⟨some 2, _, _, _, _, _⟩) ?_)
  refine wl_allocS st0 rfl rfl (z := .agg #[.int .u64 0, .int .u64 0, .int .u64 0, .int .u64 0, .int .u64 0, .int .u64 0, .int .u64 0, .int .u64 0, .int .u64 0, .int .u64 0, .int .u64 0, .int .u64 0]) (by kernel_rfl) (cw 12 0) (by rw [cw_zero]; rfl) ?_
  intro g2 w1 st1
  clear st0
  go_wp2_with (with_reducible refine wl_stop (o := ⟨some 8, _, _, _, _, _⟩) ?_)
  refine wl_make rfl rfl Try.underlying34 info_u8 rfl rfl rfl 33 33 (by simp) (by simp) (by omega) (by omega) (by unfold maxLen; omega) ?_
  intro w2 hg2 hf2 hz2
  clear hz2
  have st2 := st1.new hf2 hg2 (Nat.le_refl _)
  clear st1 hg2 hf2
  rw [z_u8] at st2
  go_wp2_with (with_reducible refine wl_stop (o := ⟨some 9, _, _, _, _, _⟩) ?_)
  refine wl_string rfl rfl Try.underlying34 Try.underlying5 Try.underlying9 rfl (l := List.replicate 33 0) (Rd.whole (st2.at 1 rfl)) ?_
  have st3 := st2.less (List.sublist_append_left _ _)
  clear st2
  go_wp2_with (with_reducible refine wl_stop (o := ⟨some 10, _, _, _, _, _⟩) ?_)
  refine wl_exec rfl (exec_eqlS rfl rfl rfl HZ.out _) ?_
  go_wp2_with fail
  refine wp_region_noPanic ?_
  refine wp_region_lad st3 9 [.o 7, .w 1, .w 2, .c 0, .c 3, .w 4, .w 5, .w 6, .j 7] (.r 8 (.m 9 .nil)) (by kernel_rfl) (by kernel_rfl) (fun _ _ _ _ _ h => h) ?_
  clear st3
  refine lad_o rfl rfl rfl z_rn (cw 4 0) rfl ?_
  try simp only [Act.put, List.setIfInBounds_toArray, List.set_cons_zero, List.set_cons_succ]
  iterate 2 (refine lad_w (v := ?_) rfl rfl (fun xq wx => ?_) ?_; rotate_left 1; · (go_simp; with_reducible rfl); try simp only [Act.put, List.setIfInBounds_toArray, List.set_cons_zero, List.set_cons_succ])
  refine lad_call rfl rfl rfl Try.call36 (fun w hS hR => RF_any _) (fun _ => rfl) ?_
  try simp only [Act.put, List.setIfInBounds_toArray, List.set_cons_zero, List.set_cons_succ]
  refine lad_call rfl rfl rfl Try.call11 (fun w hS hR => HN.out _) (fun _ => rfl) ?_
  try simp only [Act.put, List.setIfInBounds_toArray, List.set_cons_zero, List.set_cons_succ]
  iterate 3 (refine lad_w (v := ?_) rfl rfl (fun xq wx => ?_) ?_; rotate_left 1; · (go_simp; with_reducible rfl); try simp only [Act.put, List.setIfInBounds_toArray, List.set_cons_zero, List.set_cons_succ])
  refine lad_j List.mem_cons_self fun g4 => ?_
  simp only [upd, reduceIte]
  try simp only [Nat.reduceEqDiff, reduceIte]
  refine lad_end fun xq w4 st4 hR => ?_
  try dsimp only
  clear hR xq
  refine plan_r rfl rfl ?_
  refine wp_storeS st4 1 rfl rfl rfl rfl (by first | (simp [cw_len]; done) | (simp [RT.len]; done) | (simp [rpL_len]; done) | (simp [cw_len, RT.len]; done) | (simp [cw_len, rpL_len]; done) | simp [cw_len, RT.len, rpL_len]) (by kernel_rfl) (cw_one _ _) ?_
  intro w5 st5
  repeat (first | simp only [List.cons_append] at st5 | simp only [List.nil_append] at st5 | simp only [List.set_cons_succ] at st5 | simp only [List.set_cons_zero] at st5)
  clear st4
  refine ⟨by first | exact st5 | exact St.less st5 (by simp), ?_⟩
  try simp only [Act.put]
  refine plan_m rfl rfl ?_
  go_simp
  try simp only [Act.put, List.setIfInBounds_toArray, List.set_cons_zero, List.set_cons_succ]
  refine plan_end ?_
  refine NoPanic.normal ?_
  go_wp2_with (with_reducible refine wl_stop (o := ⟨some 37, _, _, _, _, _⟩) ?_)
  refine wl_loadS st5 1 rfl rfl rfl Try.underlying24 rfl (by kernel_rfl) ?_
  go_wp2_with fail
  refine (HAT.out _).mono ?_
  rintro e' w6 ⟨rfl, hf6⟩
  have st6 := st5.keep hf6
  clear st5 hf6
  go_wp2_with (with_reducible refine wl_stop (o := ⟨some 6, _, _, _, _, _⟩) ?_)
  refine wl_allocS st6 rfl rfl (z := .agg #[.int .u64 0, .int .u64 0, .int .u64 0, .int .u64 0, .int .u64 0, .int .u64 0, .int .u64 0, .int .u64 0, .int .u64 0, .int .u64 0, .int .u64 0, .int .u64 0]) (by kernel_rfl) (cw 12 0) (by rw [cw_zero]; rfl) ?_
  intro g6 w7 st7
  clear st6
  go_wp2_with (with_reducible refine wl_stop (o := ⟨none, _, _, _, _, _⟩) ?_)
  refine wl_storeS st7 2 rfl rfl rfl rfl rfl (by first | (simp [cw_len]; done) | (simp [RT.len]; done) | (simp [rpL_len]; done) | (simp [cw_len, RT.len]; done) | (simp [cw_len, rpL_len]; done) | simp [cw_len, RT.len, rpL_len]) (by kernel_rfl) (pt_one _ _ _) ?_
  intro w8 st8
  clear st7
  go_wp2_with (with_reducible refine wl_stop (o := ⟨some 46, _, _, _, _, _⟩) ?_)
  refine wl_loadSt st8 2 rfl rfl rfl Try.underlying26 rfl rfl (by kernel_rfl) ?_
  go_wp2_with (with_reducible refine wl_stop (o := ⟨none, _, _, _, _, _⟩) ?_)
  refine wl_storeS st8 0 rfl rfl rfl rfl rfl (by first | (simp [cw_len]; done) | (simp [RT.len]; done) | (simp [rpL_len]; done) | (simp [cw_len, RT.len]; done) | (simp [cw_len, rpL_len]; done) | simp [cw_len, RT.len, rpL_len]) (by kernel_rfl) (pt_one _ _ _) ?_
  intro w9 st9
  clear st8
  have hr := st9.at 0 rfl
  have hfr := st9.fr
  clear st9
  go_wp2_with fail
  exact bodyPost_ret (results_st2 rfl rfl hr Try.underlying26 rfl (by kernel_rfl) rfl) rfl ⟨rfl, hfr⟩

theorem RNeg_u (x y z : K) (w : World) : Calls Try.prog 18 #[.agg (cw 4 (kN x) ++ (cw 4 (kN y) ++ cw 4 (kN z))).toArray] w fun e w' => e = .returned (.agg (cw 4 (kN x) ++ (cw 4 (kN (-y)) ++ cw 4 (kN z))).toArray) ∧ Fr Nob w w' := RNeg_any x y z _ rfl w

set_option maxHeartbeats 16000000 in
set_option maxRecDepth 1000000 in
theorem RRead_num3 (s : ByteArray) (hz : decide (s = (mkS (List.replicate 33 0))) = false) (hl : s.size = 33) (hb : ∀ h : 0 < s.size, ((s[0]'h).toNat : Int) = 3) (hn : ∀ wx, Calls Try.prog 11 #[fv mP.M, .string (s.extract 1 s.size)] wx fun e w' => ∃ N : Nat, e = .returned (.tuple #[i4 N, .bool false]) ∧ True ∧ Fr Nob wx w') (w : World) : Calls Try.prog 9 #[.string s] w fun e w' => e = .returned (.tuple #[rpV 0 0 0, .bool false]) ∧ Fr Nob w w' := by
  have HZ := Lib.hid hz
  clear hz
  have hl33 : ((s.size : Int) != 33) = false := by rw [hl]; rfl
  have h0 : (0 : Int) < (s.size : Int) := by omega
  have h00 : 0 < s.size := by omega
  have h1 : (1 : Int) ≤ (s.size : Int) := by omega
  have hb0 := hb h00
  clear hl hb
  have HN := Lib.hid hn
  clear hn
  have st0 := St.start Nob w
  go_enter Try.func9, Try.ntmps9
  go_wp2_with (with_reducible refine wl_stop (o := ⟨some 2, _, _, _, _, _⟩) ?_)
  refine wl_allocS st0 rfl rfl (z := .agg #[.int .u64 0, .int .u64 0, .int .u64 0, .int .u64 0, .int .u64 0, .int .u64 0, .int .u64 0, .int .u64 0, .int .u64 0, .int .u64 0, .int .u64 0, .int .u64 0]) (by kernel_rfl) (cw 12 0) (by rw [cw_zero]; rfl) ?_
  intro g2 w1 st1
  clear st0
  go_wp2_with (with_reducible refine wl_stop (o := ⟨some 8, _, _, _, _, _⟩) ?_)
  refine wl_make rfl rfl Try.underlying34 info_u8 rfl rfl rfl 33 33 (by simp) (by simp) (by omega) (by omega) (by unfold maxLen; omega) ?_
  intro w2 hg2 hf2 hz2
  clear hz2
  have st2 := st1.new hf2 hg2 (Nat.le_refl _)
  clear st1 hg2 hf2
  rw [z_u8] at st2
  go_wp2_with (with_reducible refine wl_stop (o := ⟨some 9, _, _, _, _, _⟩) ?_)
  refine wl_string rfl rfl Try.underlying34 Try.underlying5 Try.underlying9 rfl (l := List.replicate 33 0) (Rd.whole (st2.at 1 rfl)) ?_
  have st3 := st2.less (List.sublist_append_left _ _)
  clear st2
  go_wp2_with (with_reducible refine wl_stop (o := ⟨some 10, _, _, _, _, _⟩) ?_)
  refine wl_exec rfl (exec_eqlS rfl rfl rfl HZ.out _) ?_
  go_wp2_with fail
  refine wp_region_noPanic ?_
  refine wp_region_lad st3 9 [.o 7, .w 1, .w 2, .c 0, .c 3, .w 4, .w 5, .w 6, .j 7] (.r 8 (.m 9 .nil)) (by kernel_rfl) (by kernel_rfl) (fun _ _ _ _ _ h => h) ?_
  clear st3
  refine lad_o rfl rfl rfl z_rn (cw 4 0) rfl ?_
  try simp only [Act.put, List.setIfInBounds_toArray, List.set_cons_zero, List.set_cons_succ]
  iterate 2 (refine lad_w (v := ?_) rfl rfl (fun xq wx => ?_) ?_; rotate_left 1; · (go_simp; with_reducible rfl); try simp only [Act.put, List.setIfInBounds_toArray, List.set_cons_zero, List.set_cons_succ])
  refine lad_call rfl rfl rfl Try.call36 (fun w hS hR => RF_any _) (fun _ => rfl) ?_
  try simp only [Act.put, List.setIfInBounds_toArray, List.set_cons_zero, List.set_cons_succ]
  refine lad_callX (X := Nat) (fun N => .tuple #[i4 N, .bool false]) (fun _ _ => True) (fun _ _ _ _ _ => trivial) rfl rfl rfl Try.call11 (fun w hS hR => HN.out _) (fun _ => rfl) fun N => ?_
  try simp only [Act.put, List.setIfInBounds_toArray, List.set_cons_zero, List.set_cons_succ]
  iterate 3 (refine lad_w (v := ?_) rfl rfl (fun xq wx => ?_) ?_; rotate_left 1; · (go_simp; with_reducible rfl); try simp only [Act.put, List.setIfInBounds_toArray, List.set_cons_zero, List.set_cons_succ])
  refine lad_j List.mem_cons_self fun g4 => ?_
  simp only [upd, reduceIte]
  try simp only [Nat.reduceEqDiff, reduceIte]
  refine lad_end fun xq w4 st4 hR => ?_
  try dsimp only
  clear hR xq
  refine plan_r rfl rfl ?_
  refine wp_storeS st4 1 rfl rfl rfl rfl (by first | (simp [cw_len]; done) | (simp [RT.len]; done) | (simp [rpL_len]; done) | (simp [cw_len, RT.len]; done) | (simp [cw_len, rpL_len]; done) | simp [cw_len, RT.len, rpL_len]) (by kernel_rfl) (cw_one _ _) ?_
  intro w5 st5
  repeat (first | simp only [List.cons_append] at st5 | simp only [List.nil_append] at st5 | simp only [List.set_cons_succ] at st5 | simp only [List.set_cons_zero] at st5)
  clear st4
  refine ⟨by first | exact st5 | exact St.less st5 (by simp), ?_⟩
  try simp only [Act.put]
  refine plan_m rfl rfl ?_
  go_simp
  try simp only [Act.put, List.setIfInBounds_toArray, List.set_cons_zero, List.set_cons_succ]
  refine plan_end ?_
  refine NoPanic.normal ?_
  go_wp2_with (with_reducible refine wl_stop (o := ⟨some 35, _, _, _, _, _⟩) ?_)
  refine wl_buildL rfl rfl _ built_rp0 ?_
  go_wp2_with (with_reducible refine wl_stop (o := ⟨none, _, _, _, _, _⟩) ?_)
  refine wl_storeS st5 0 rfl rfl rfl rfl rfl (by first | (simp [cw_len]; done) | (simp [RT.len]; done) | (simp [rpL_len]; done) | (simp [cw_len, RT.len]; done) | (simp [cw_len, rpL_len]; done) | simp [cw_len, RT.len, rpL_len]) (by kernel_rfl) (pt_one _ _ _) ?_
  intro w6 st6
  clear st5
  have hr := st6.at 0 rfl
  have hfr := st6.fr
  clear st6
  go_wp2_with fail
  exact bodyPost_ret (results_st2 rfl rfl hr Try.underlying26 rfl (by kernel_rfl) rfl) rfl ⟨by unfold rpV rpL; rw [kN_zero]; rfl, hfr⟩

set_option maxHeartbeats 16000000 in
set_option maxRecDepth 1000000 in
theorem RRead_pt3 (s : ByteArray) (hz : decide (s = (mkS (List.replicate 33 0))) = false) (hl : s.size = 33) (hb : ∀ h : 0 < s.size, ((s[0]'h).toNat : Int) = 3) (X Y : K) (b : Bool) (hn : ∀ wx, Calls Try.prog 11 #[fv mP.M, .string (s.extract 1 s.size)] wx fun e w' => e = .returned (.tuple #[i4 (kN X), .bool true]) ∧ Fr Nob wx w') (ha : ∀ wx, Calls Try.prog 37 #[i4 (kN X)] wx fun e w' => e = .returned (.tuple #[rpV X Y 1, .bool b]) ∧ Fr Nob wx w') (w : World) : Calls Try.prog 9 #[.string s] w fun e w' => e = .returned (.tuple #[rpV X (-Y) 1, .bool b]) ∧ Fr Nob w w' := by
  have HZ := Lib.hid hz
  clear hz
  have hl33 : ((s.size : Int) != 33) = false := by rw [hl]; rfl
  have h0 : (0 : Int) < (s.size : Int) := by omega
  have h00 : 0 < s.size := by omega
  have h1 : (1 : Int) ≤ (s.size : Int) := by omega
  have hb0 := hb h00
  clear hl hb
  have HN := Lib.hid hn
  unfold rpV rpL at ha
  have HAT := Lib.hid ha
  clear hn ha
  unfold rpV rpL
  have st0 := St.start Nob w
  go_enter Try.func9, Try.ntmps9
  go_wp2_with (with_reducible refine wl_stop (o := ⟨some 2, _, _, _, _, _⟩) ?_)
  refine wl_allocS st0 rfl rfl (z := .agg #[.int .u64 0, .int .u64 0, .int .u64 0, .int .u64 0, .int .u64 0, .int .u64 0, .int .u64 0, .int .u64 0, .int .u64 0, .int .u64 0, .int .u64 0, .int .u64 0]) (by kernel_rfl) (cw 12 0) (by rw [cw_zero]; rfl) ?_
  intro g2 w1 st1
  clear st0
  go_wp2_with (with_reducible refine wl_stop (o := ⟨some 8, _, _, _, _, _⟩) ?_)
  refine wl_make rfl rfl Try.underlying34 info_u8 rfl rfl rfl 33 33 (by simp) (by simp) (by omega) (by omega) (by unfold maxLen; omega) ?_
  intro w2 hg2 hf2 hz2
  clear hz2
  have st2 := st1.new hf2 hg2 (Nat.le_refl _)
  clear st1 hg2 hf2
  rw [z_u8] at st2
  go_wp2_with (with_reducible refine wl_stop (o := ⟨some 9, _, _, _, _, _⟩) ?_)
  refine wl_string rfl rfl Try.underlying34 Try.underlying5 Try.underlying9 rfl (l := List.replicate 33 0) (Rd.whole (st2.at 1 rfl)) ?_
  have st3 := st2.less (List.sublist_append_left _ _)
  clear st2
  go_wp2_with (with_reducible refine wl_stop (o := ⟨some 10, _, _, _, _, _⟩) ?_)
  refine wl_exec rfl (exec_eqlS rfl rfl rfl HZ.out _) ?_
  go_wp2_with fail
  refine wp_region_noPanic ?_
  refine wp_region_lad st3 9 [.o 7, .w 1, .w 2, .c 0, .c 3, .w 4, .w 5, .w 6, .j 7] (.r 8 (.m 9 .nil)) (by kernel_rfl) (by kernel_rfl) (fun _ _ _ _ _ h => h) ?_
  clear st3
  refine lad_o rfl rfl rfl z_rn (cw 4 0) rfl ?_
  try simp only [Act.put, List.setIfInBounds_toArray, List.set_cons_zero, List.set_cons_succ]
  iterate 2 (refine lad_w (v := ?_) rfl rfl (fun xq wx => ?_) ?_; rotate_left 1; · (go_simp; with_reducible rfl); try simp only [Act.put, List.setIfInBounds_toArray, List.set_cons_zero, List.set_cons_succ])
  refine lad_call rfl rfl rfl Try.call36 (fun w hS hR => RF_any _) (fun _ => rfl) ?_
  try simp only [Act.put, List.setIfInBounds_toArray, List.set_cons_zero, List.set_cons_succ]
  refine lad_call rfl rfl rfl Try.call11 (fun w hS hR => HN.out _) (fun _ => rfl) ?_
  try simp only [Act.put, List.setIfInBounds_toArray, List.set_cons_zero, List.set_cons_succ]
  iterate 3 (refine lad_w (v := ?_) rfl rfl (fun xq wx => ?_) ?_; rotate_left 1; · (go_simp; with_reducible rfl); try simp only [Act.put, List.setIfInBounds_toArray, List.set_cons_zero, List.set_cons_succ])
  refine lad_j List.mem_cons_self fun g4 => ?_
  simp only [upd, reduceIte]
  try simp only [Nat.reduceEqDiff, reduceIte]
  refine lad_end fun xq w4 st4 hR => ?_
  try dsimp only
  clear hR xq
  refine plan_r rfl rfl ?_
  refine wp_storeS st4 1 rfl rfl rfl rfl (by first | (simp [cw_len]; done) | (simp [RT.len]; done) | (simp [rpL_len]; done) | (simp [cw_len, RT.len]; done) | (simp [cw_len, rpL_len]; done) | simp [cw_len, RT.len, rpL_len]) (by kernel_rfl) (cw_one _ _) ?_
  intro w5 st5
  repeat (first | simp only [List.cons_append] at st5 | simp only [List.nil_append] at st5 | simp only [List.set_cons_succ] at st5 | simp only [List.set_cons_zero] at st5)
  clear st4
  refine ⟨by first | exact st5 | exact St.less st5 (by simp), ?_⟩
  try simp only [Act.put]
  refine plan_m rfl rfl ?_
  go_simp
  try simp only [Act.put, List.setIfInBounds_toArray, List.set_cons_zero, List.set_cons_succ]
  refine plan_end ?_
  refine NoPanic.normal ?_
  go_wp2_with (with_reducible refine wl_stop (o := ⟨some 37, _, _, _, _, _⟩) ?_)
  refine wl_loadS st5 1 rfl rfl rfl Try.underlying24 rfl (by kernel_rfl) ?_
  go_wp2_with fail
  refine (HAT.out _).mono ?_
  rintro e' w6 ⟨rfl, hf6⟩
  have st6 := st5.keep hf6
  clear st5 hf6
  go_wp2_with (with_reducible refine wl_stop (o := ⟨some 6, _, _, _, _, _⟩) ?_)
  refine wl_allocS st6 rfl rfl (z := .agg #[.int .u64 0, .int .u64 0, .int .u64 0, .int .u64 0, .int .u64 0, .int .u64 0, .int .u64 0, .int .u64 0, .int .u64 0, .int .u64 0, .int .u64 0, .int .u64 0]) (by kernel_rfl) (cw 12 0) (by rw [cw_zero]; rfl) ?_
  intro g6 w7 st7
  clear st6
  go_wp2_with (with_reducible refine wl_stop (o := ⟨none, _, _, _, _, _⟩) ?_)
  refine wl_storeS st7 2 rfl rfl rfl rfl rfl (by first | (simp [cw_len]; done) | (simp [RT.len]; done) | (simp [rpL_len]; done) | (simp [cw_len, RT.len]; done) | (simp [cw_len, rpL_len]; done) | simp [cw_len, RT.len, rpL_len]) (by kernel_rfl) (pt_one _ _ _) ?_
  intro w8 st8
  clear st7
  go_wp2_with (with_reducible refine wl_stop (o := ⟨some 44, _, _, _, _, _⟩) ?_)
  refine wl_loadSt st8 2 rfl rfl rfl Try.underlying26 rfl rfl (by kernel_rfl) ?_
  go_wp2_with fail
  refine (RNeg_u X Y 1 _).mono ?_
  rintro e' w9 ⟨rfl, hf9⟩
  have st9 := st8.keep hf9
  clear st8 hf9
  go_wp2_with (with_reducible refine wl_stop (o := ⟨none, _, _, _, _, _⟩) ?_)
  refine wl_storeS st9 2 rfl rfl rfl rfl rfl (by first | (simp [cw_len]; done) | (simp [RT.len]; done) | (simp [rpL_len]; done) | (simp [cw_len, RT.len]; done) | (simp [cw_len, rpL_len]; done) | simp [cw_len, RT.len, rpL_len]) (by kernel_rfl) (pt_one _ _ _) ?_
  intro w10 st10
  clear st9
  go_wp2_with (with_reducible refine wl_stop (o := ⟨some 46, _, _, _, _, _⟩) ?_)
  refine wl_loadSt st10 2 rfl rfl rfl Try.underlying26 rfl rfl (by kernel_rfl) ?_
  go_wp2_with (with_reducible refine wl_stop (o := ⟨none, _, _, _, _, _⟩) ?_)
  refine wl_storeS st10 0 rfl rfl rfl rfl rfl (by first | (simp [cw_len]; done) | (simp [RT.len]; done) | (simp [rpL_len]; done) | (simp [cw_len, RT.len]; done) | (simp [cw_len, rpL_len]; done) | simp [cw_len, RT.len, rpL_len]) (by kernel_rfl) (pt_one _ _ _) ?_
  intro w11 st11
  clear st10
  have hr := st11.at 0 rfl
  have hfr := st11.fr
  clear st11
  go_wp2_with fail
  exact bodyPost_ret (results_st2 rfl rfl hr Try.underlying26 rfl (by kernel_rfl) rfl) rfl ⟨rfl, hfr⟩
end Go.Proofs.Ytdbgddngapminaa

/- The reference's Read, for all bytes; its Base, its Same. -/
namespace Go.Proofs.Ytdbgddngapminaa
open Go.RowKit Go.Mv Mvp Mvq
theorem beN_foldl (l : List UInt8) (a : Nat) : l.foldl (fun a x => a * 256 + x.toNat) a = a * 256 ^ l.length + beN l := by
  unfold beN
  induction l generalizing a with
  | nil => simp
  | cons x l ih =>
    rw [List.foldl_cons, List.foldl_cons, ih, ih (0 * 256 + x.toNat), List.length_cons, Nat.pow_succ]
    rw [Nat.zero_mul, Nat.zero_add, Nat.add_mul, Nat.mul_assoc, Nat.mul_comm 256]
    omega
theorem beN_cons (x : UInt8) (l : List UInt8) : beN (x :: l) = x.toNat * 256 ^ l.length + beN l := by
  have h := beN_foldl l (0 * 256 + x.toNat)
  rw [Nat.zero_mul, Nat.zero_add] at h
  show List.foldl _ 0 (x :: l) = _
  rw [List.foldl_cons, Nat.zero_mul, Nat.zero_add]
  exact h
theorem beN_zero : ∀ l : List UInt8, beN l = 0 → l = List.replicate l.length 0
  | [], _ => rfl
  | x :: l, h => by
    rw [beN_cons] at h
    have h1 : x.toNat * 256 ^ l.length = 0 := by omega
    have h2 : beN l = 0 := by omega
    have hx : x = 0 := by
      rcases Nat.mul_eq_zero.1 h1 with h | h
      · exact UInt8.toNat_inj.1 (by rw [h]; rfl)
      · exact absurd h (Nat.pos_iff_ne_zero.1 (Nat.pow_pos (by decide)))
    have ih := beN_zero l h2
    rw [List.length_cons, List.replicate_succ, ← ih, hx]
theorem mkS_inj {l m : List UInt8} (h : mkS l = mkS m) : l = m := by
  have := congrArg (fun s : ByteArray => s.data.toList) h
  simpa [mkS] using this
theorem mkS_at0 (l : List UInt8) (q : Nat) (h : (l.getD 0 0).toNat = q) (h0 : 0 < (mkS l).size) : (((mkS l)[0]'h0).toNat : Int) = (q : Int) := by
  have h1 : 0 < l.length := by rwa [mkS_size] at h0
  have : ((mkS l)[0]'h0) = l.getD 0 0 := by
    show (mkS l).data[0] = _
    simp [mkS, List.getD_eq_getElem?_getD, h1]
  rw [this, h]
theorem mkS_tail (l : List UInt8) : ((mkS l).extract 1 (mkS l).size).data.toList = l.drop 1 := by
  rw [mkS_size]
  simp [mkS]
  exact List.take_of_length_le (by simp)
theorem rdOk_zeros : rdOk (List.replicate 33 0) = true := by decide
attribute [local irreducible] rtV rtOk rpL crvN beN be32
theorem num_tail (l : List UInt8) (h33 : l.length = 33) : numB mP ((mkS l).extract 1 (mkS l).size).data.toList = decide (tlN l < fP) := by
  rw [mkS_tail]
  unfold numB tlN
  rw [List.length_drop, h33, mPM]
  rfl
theorem RNum_t (l : List UInt8) (h33 : l.length = 33) (hlt : tlN l < fP) (w : World) :
    Calls Try.prog 11 #[fv mP.M, .string ((mkS l).extract 1 (mkS l).size)] w fun e w' => e = .returned (.tuple #[i4 (kN (kc (tlN l))), .bool true]) ∧ Fr Nob w w' := by
  have h := Number_t mP mP_ok.lt ((mkS l).extract 1 (mkS l).size) w (by rw [num_tail l h33]; simpa using hlt)
  rw [mkS_tail] at h
  rw [kN_kc, Nat.mod_eq_of_lt hlt]
  exact h
theorem RNum_f (l : List UInt8) (h33 : l.length = 33) (hlt : ¬ tlN l < fP) (w : World) :
    Calls Try.prog 11 #[fv mP.M, .string ((mkS l).extract 1 (mkS l).size)] w fun e w' => ∃ N : Nat, e = .returned (.tuple #[i4 N, .bool false]) ∧ True ∧ Fr Nob w w' :=
  (Number_f mP mP_ok.lt _ w (by rw [num_tail l h33]; simpa using hlt)).mono fun e w' ⟨N, h1, h2⟩ => ⟨N, h1, trivial, h2⟩
theorem kN_crv (n : Nat) : kN (kc n * kc n * kc n + 7) = crvN n % fP := by rw [← crvN_kc, kN_kc]
theorem RAt_t (n : Nat) (hr : rtOk fP (crvN n) = true) (w : World) : Calls Try.prog 37 #[i4 (kN (kc n))] w fun e w' => e = .returned (.tuple #[rpV (kc n) (kc (rtV fP (crvN n))) 1, .bool true]) ∧ Fr Nob w w' := by
  have h := Rat_t (kc n) _ _ _ rfl rfl rfl (by rw [kN_crv, rtOk_mod]; exact hr) w
  rw [kN_crv, rtV_mod] at h
  exact h
theorem RAt_f (n : Nat) (hr : rtOk fP (crvN n) = false) (w : World) : Calls Try.prog 37 #[i4 (kN (kc n))] w fun e w' => e = .returned (.tuple #[rpV (kc n) 0 1, .bool false]) ∧ Fr Nob w w' :=
  Rat_f (kc n) _ _ _ rfl rfl rfl (by rw [kN_crv, rtOk_mod]; exact hr) w
theorem ne_zeros {l : List UInt8} (h : l ≠ List.replicate 33 0) : decide (mkS l = mkS (List.replicate 33 0)) = false := by
  simpa using fun e => h (mkS_inj e)
theorem zeros_of {l : List UInt8} (h33 : l.length = 33) (h0 : l.getD 0 0 = 0) (ht : tlN l = 0) : l = List.replicate 33 0 := by
  cases l with
  | nil => cases h33
  | cons x l =>
    have hx : x = 0 := h0
    have hl := beN_zero l ht
    rw [List.length_cons] at h33
    rw [hx, hl, show l.length = 32 by omega]
    rfl
theorem head_ne {l : List UInt8} (q : UInt8) (hq : q ≠ 0) (h : l.getD 0 0 = q) : l ≠ List.replicate 33 0 := by
  rintro rfl
  exact hq h.symm
theorem RRead_ex (l : List UInt8) (h : rdOk l = true) : ∃ r : RT, r.pt = rdPt l ∧ ∀ w : World, Calls Try.prog 9 #[.string (mkS l)] w fun e w' => e = .returned (.tuple #[.agg r.L.toArray, .bool true]) ∧ Fr Nob w w' := by
  have hon := rd_on h
  unfold rdOk at h
  unfold rdPt at *
  simp only [Bool.and_eq_true, decide_eq_true_eq] at h
  obtain ⟨h33, h⟩ := h
  by_cases h0 : l.getD 0 0 = 0
  · rw [if_pos h0] at h
    refine ⟨noR, by rw [if_pos h0, noR_pt], fun w => ?_⟩
    exact RRead_zero (mkS l) (by rw [zeros_of h33 h0 (by simpa using h)]; simp) w
  · rw [if_neg h0] at h hon
    simp only [Bool.and_eq_true, decide_eq_true_eq] at h
    obtain ⟨h23, hlt, hr⟩ := h
    rcases h23 with h2 | h3
    · have h3 : ¬ l.getD 0 0 = 3 := by rw [h2]; decide
      rw [if_neg h3] at hon
      refine ⟨affR _ _ hon, by rw [if_neg h0, if_neg h3, affR_pt], fun w => ?_⟩
      exact RRead_pt2 (mkS l) (ne_zeros (head_ne 2 (by decide) h2)) (by rw [mkS_size, h33]) (fun h => mkS_at0 l 2 (by rw [h2]; rfl) h) _ _ true (RNum_t l h33 hlt) (RAt_t _ hr) w
    · rw [if_pos h3] at hon
      refine ⟨affR _ _ hon, by rw [if_neg h0, if_pos h3, affR_pt], fun w => ?_⟩
      exact RRead_pt3 (mkS l) (ne_zeros (head_ne 3 (by decide) h3)) (by rw [mkS_size, h33]) (fun h => mkS_at0 l 3 (by rw [h3]; rfl) h) _ _ true (RNum_t l h33 hlt) (RAt_t _ hr) w
open Classical in
noncomputable def rdR (l : List UInt8) : RT := if h : rdOk l = true then Classical.choose (RRead_ex l h) else noR
theorem rdR_pt {l : List UInt8} (h : rdOk l = true) : (rdR l).pt = rdPt l := by unfold rdR; rw [dif_pos h]; exact (Classical.choose_spec (RRead_ex l h)).1
theorem RRead_tl (l : List UInt8) (h : rdOk l = true) (w : World) : Calls Try.prog 9 #[.string (mkS l)] w fun e w' => e = .returned (.tuple #[.agg (rdR l).L.toArray, .bool true]) ∧ Fr Nob w w' := by
  unfold rdR; rw [dif_pos h]; exact (Classical.choose_spec (RRead_ex l h)).2 w
theorem RRead_t (s : ByteArray) (h : rdOk s.data.toList = true) (w : World) : Calls Try.prog 9 #[.string s] w fun e w' => e = .returned (.tuple #[.agg (rdR s.data.toList).L.toArray, .bool true]) ∧ Fr Nob w w' := by
  have := RRead_tl s.data.toList h w
  rwa [mkS_data] at this
theorem RRead_fl (l : List UInt8) (h : rdOk l = false) (w : World) : Calls Try.prog 9 #[.string (mkS l)] w fun e w' => ∃ X Y Z : K, e = .returned (.tuple #[rpV X Y Z, .bool false]) ∧ Fr Nob w w' := by
  by_cases h33 : l.length = 33
  · by_cases h0 : l.getD 0 0 = 0
    · have hz : l ≠ List.replicate 33 0 := by
        rintro rfl
        rw [rdOk_zeros] at h
        cases h
      exact (RRead_head (mkS l) (ne_zeros hz) (by rw [mkS_size, h33]) 0 (fun h => mkS_at0 l 0 (by rw [h0]; rfl) h) rfl rfl w).mono fun e w' k => ⟨0, 0, 0, k.1, k.2⟩
    · by_cases h23 : l.getD 0 0 = 2 ∨ l.getD 0 0 = 3
      · by_cases hlt : tlN l < fP
        · have hr : rtOk fP (crvN (tlN l)) = false := by
            unfold rdOk at h
            rw [if_neg h0, decide_eq_true h33, decide_eq_true h23, decide_eq_true hlt] at h
            simpa using h
          rcases h23 with h2 | h3
          · exact (RRead_pt2 (mkS l) (ne_zeros (head_ne 2 (by decide) h2)) (by rw [mkS_size, h33]) (fun h => mkS_at0 l 2 (by rw [h2]; rfl) h) _ _ false (RNum_t l h33 hlt) (RAt_f _ hr) w).mono fun e w' k => ⟨_, _, _, k.1, k.2⟩
          · exact (RRead_pt3 (mkS l) (ne_zeros (head_ne 3 (by decide) h3)) (by rw [mkS_size, h33]) (fun h => mkS_at0 l 3 (by rw [h3]; rfl) h) _ _ false (RNum_t l h33 hlt) (RAt_f _ hr) w).mono fun e w' k => ⟨_, _, _, k.1, k.2⟩
        · rcases h23 with h2 | h3
          · exact (RRead_num2 (mkS l) (ne_zeros (head_ne 2 (by decide) h2)) (by rw [mkS_size, h33]) (fun h => mkS_at0 l 2 (by rw [h2]; rfl) h) (RNum_f l h33 hlt) w).mono fun e w' k => ⟨0, 0, 0, k.1, k.2⟩
          · exact (RRead_num3 (mkS l) (ne_zeros (head_ne 3 (by decide) h3)) (by rw [mkS_size, h33]) (fun h => mkS_at0 l 3 (by rw [h3]; rfl) h) (RNum_f l h33 hlt) w).mono fun e w' k => ⟨0, 0, 0, k.1, k.2⟩
      · have hz : l ≠ List.replicate 33 0 := by
          rintro rfl
          exact h0 rfl
        have hne : (l.getD 0 0).toNat ≠ 2 ∧ (l.getD 0 0).toNat ≠ 3 := by
          refine ⟨fun e => h23 (.inl (UInt8.toNat_inj.1 (e.trans rfl))), fun e => h23 (.inr (UInt8.toNat_inj.1 (e.trans rfl)))⟩
        obtain ⟨q, hq⟩ : ∃ q, (l.getD 0 0).toNat = q := ⟨_, rfl⟩
        rw [hq] at hne
        exact (RRead_head (mkS l) (ne_zeros hz) (by rw [mkS_size, h33]) q (fun h => mkS_at0 l q hq h) (by simp; omega) (by simp; omega) w).mono fun e w' k => ⟨0, 0, 0, k.1, k.2⟩
  · have hz : l ≠ List.replicate 33 0 := by
      rintro rfl
      exact h33 (by simp)
    exact (RRead_len (mkS l) (ne_zeros hz) (by rw [mkS_size]; simp; omega) w).mono fun e w' k => ⟨0, 0, 0, k.1, k.2⟩
theorem RRead_f (s : ByteArray) (h : rdOk s.data.toList = false) (w : World) : Calls Try.prog 9 #[.string s] w fun e w' => ∃ X Y Z : K, e = .returned (.tuple #[rpV X Y Z, .bool false]) ∧ Fr Nob w w' := by
  have := RRead_fl s.data.toList h w
  rwa [mkS_data] at this
end Go.Proofs.Ytdbgddngapminaa

/- The reference's Read and Number, each as one contract; the law's told. -/
namespace Go.Proofs.Ytdbgddngapminaa
open Go.RowKit Go.Mv Mvp Mvq
theorem RRead_u (s : ByteArray) (w : World) : Calls Try.prog 9 #[.string s] w fun e w' => ∃ X Y Z : K, e = .returned (.tuple #[rpV X Y Z, .bool (rdOk s.data.toList)]) ∧ (rdOk s.data.toList = true → rpL X Y Z = (rdR s.data.toList).L) ∧ Fr Nob w w' := by
  cases h : rdOk s.data.toList
  · exact (RRead_f s h w).mono fun e w' ⟨X, Y, Z, k1, k2⟩ => ⟨X, Y, Z, k1, fun h => (by cases h), k2⟩
  · exact (RRead_t s h w).mono fun e w' k => ⟨_, _, _, k.1, fun _ => rfl, k.2⟩
theorem t_ok {lk la : List UInt8} (hk : numB mQ lk = true) (ha : rdOk la = true) : tC lk la = 0 ∧ tS lk la = wrPt (pmul (beN lk) (rdPt la)) := by unfold tC tS; rw [hk, ha]; exact ⟨rfl, rfl⟩
theorem rpL_one (x y z : K) : ∀ v ∈ rpL x y z, v.oneCell' = true := pt_one _ _ _
end Go.Proofs.Ytdbgddngapminaa

/- The law SigmaSound. -/
namespace Go.Proofs.Ytdbgddngapminaa
open Go.RowKit Go.Mv Mvp Mvq
theorem qN_mQ : mQ.M = qN := by decide
theorem RScalar_u (s : ByteArray) (w : World) : Calls Try.prog 71 #[.string s] w fun e w' => ∃ N : Nat, e = .returned (.tuple #[i4 N, .bool (numB mQ s.data.toList)]) ∧ (numB mQ s.data.toList = true → N = beN s.data.toList) ∧ Fr Nob w w' := by
  cases h : numB mQ s.data.toList
  · exact (Scalar_f mQ .one s w h).mono fun e w' ⟨N, k1, k2⟩ => ⟨N, k1, fun h => (by cases h), k2⟩
  · exact (Scalar_t mQ .one s w h).mono fun e w' k => ⟨_, k.1, fun _ => rfl, k.2⟩
open Classical in
noncomputable def solB (F P C Z : List UInt8) : Bool := decide (pmul (beN Z) gP = padd (rdPt F) (pmul (beN C) (rdPt P)))
noncomputable def ansB (F P C Z : List UInt8) : Bool := (rdOk F && rdOk P && numB mQ C && numB mQ Z) && solB F P C Z
open Classical in
theorem RSame_s (f p c z : List UInt8) (hf : rdOk f = true) (hp : rdOk p = true) (hc : numB mQ c = true) (hz : numB mQ z = true) (w : World) :
    Calls Try.prog 72 #[.agg (timesR (beN z) baseR).L.toArray, .agg (addR (rdR f) (timesR (beN c) (rdR p))).L.toArray] w fun e w' => e = .returned (.bool (solB f p c z)) ∧ Fr Nob w w' := by
  have h := RSame_c (timesR (beN z) baseR) (addR (rdR f) (timesR (beN c) (rdR p))) w
  rw [addR_pt, timesR_pt _ (Nat.lt_trans (numB_lt2 hz) (by decide)), timesR_pt _ (Nat.lt_trans (numB_lt2 hc) (by decide)), rdR_pt hf, rdR_pt hp, baseR_pt] at h
  exact h
theorem ans_no {F P C Z : List UInt8} (h : (rdOk F && rdOk P && numB mQ C && numB mQ Z) = false) : ansB F P C Z = false := by unfold ansB; rw [h]; rfl
theorem ans_yes {F P C Z : List UInt8} (h1 : rdOk F = true) (h2 : rdOk P = true) (h3 : numB mQ C = true) (h4 : numB mQ Z = true) : ansB F P C Z = solB F P C Z := by unfold ansB; rw [h1, h2, h3, h4]; rfl
attribute [local irreducible] limbs lw mix cw cSub cAdd cMul foldC valFrom beN laid be32 powm montT mstep elN mdL numB rtV rtOk kN kc kinv wrPt addR noR timesR tmsR RT.L gXn gYn rpL rdOk rdPt rdR secN
set_option maxHeartbeats 16000000 in
set_option maxRecDepth 1000000 in
theorem small_c (x : Nat) (l : List UInt8) (hl : (List.replicate 32 (Value.int .u8 0)).set 31 (.int .u8 (x : Int)) = bs l) (h32 : l.length = 32) (w : World) : Calls Try.prog 30 #[.int .u8 (x : Int)] w fun e w' => ∃ g c, e = .returned (.slice (some ⟨g, 0, none⟩) 32 c) ∧ BPart w' (.slice (some ⟨g, 0, none⟩) 32 c) l ∧ Fr Nob w w' := by
  go_enter Try.func30, Try.ntmps30
  go_wp2_with (first
    | (at_make; refine wl_make rfl rfl Try.underlying34 info_u8 rfl rfl rfl 32 32 (by simp) (by simp) (by omega) (by omega) (by unfold maxLen; omega) ?_; intro w1 hw1 hf1 hz1)
    | (with_reducible refine wl_stop (o := ⟨some 7, _, _, _, _, _⟩) ?_))
  clear hz1
  have hsz : w.heap.size ≤ w.heap.size := Nat.le_refl _
  generalize hg0 : w.heap.size = g at hw1 hsz ⊢
  have HG0 := Lib.hid hg0
  have HF1 := Lib.hid hf1
  clear hg0 hsz hf1
  obtain ⟨v, hc, hfz⟩ := hw1.ready (i := 31) (by simp)
  have hst := hw1.set 31 (.int .u8 (x : Int))
  rw [hl] at hst
  have HST := Lib.hid hst
  have hfr : Fr Nob w (w1.setCell ⟨g, 31, none⟩ (.int .u8 (x : Int))) := HF1.out.setCell g 31 none _ (fun h => absurd h (by rw [HG0.out]; exact Nat.lt_irrefl _))
  have HFR := Lib.hid hfr
  have HL := Lib.hid hl
  clear hst hfr hl hw1
  unfold Stop
  go_wp2
  go_ret
  exact ⟨g, 32, rfl, ⟨_, 32, _, rfl, Nat.le_refl _, by have h := Rd.whole HST.out; rw [length_bs, h32] at h; exact h⟩, HFR.out⟩

set_option maxHeartbeats 16000000 in
set_option maxRecDepth 1000000 in
theorem answers_c (f p c z : ByteArray) (w : World) : Calls Try.prog 32 #[.string f, .string p, .string c, .string z] w fun e w' => e = .returned (.bool (ansB f.data.toList p.data.toList c.data.toList z.data.toList)) ∧ Fr Nob w w' := by
  have st0 := St.start Nob w
  go_enter Try.func32, Try.ntmps32
  go_wp2_with fail
  refine (RRead_u f _).mono ?_
  rintro e' w1 ⟨X1, Y1, Z1, rfl, hx1, hf1⟩
  have st1 := st0.keep hf1
  have HX1 := Lib.hid hx1
  clear hx1
  clear st0 hf1
  go_wp2_with (with_reducible refine wl_stop (o := ⟨some 9, _, _, _, _, _⟩) ?_)
  refine wl_allocS st1 rfl rfl (z := .agg #[.int .u64 0, .int .u64 0, .int .u64 0, .int .u64 0, .int .u64 0, .int .u64 0, .int .u64 0, .int .u64 0, .int .u64 0, .int .u64 0, .int .u64 0, .int .u64 0]) (by kernel_rfl) (cw 12 0) (by rw [cw_zero]; rfl) ?_
  intro g9 w2 st2
  clear st1
  go_wp2_with (with_reducible refine wl_stop (o := ⟨none, _, _, _, _, _⟩) ?_)
  refine wl_storeS st2 0 rfl rfl rfl rfl rfl (by first | (simp only [cw_len]; done) | (simp only [List.length_append, cw_len, RT.len, rpL_len]; done)) (by first | (rw [cw_len]; kernel_rfl) | (rw [RT.len]; kernel_rfl) | (rw [rpL_len]; kernel_rfl) | (simp only [List.length_append, cw_len]; kernel_rfl) | (simp only [List.length_append, cw_len, RT.len, rpL_len]; kernel_rfl)) (rpL_one _ _ _) ?_
  intro w3 st3
  clear st2
  go_wp2_with fail
  refine (RRead_u p _).mono ?_
  rintro e' w4 ⟨X2, Y2, Z2, rfl, hx2, hf4⟩
  have st4 := st3.keep hf4
  have HX2 := Lib.hid hx2
  clear hx2
  clear st3 hf4
  go_wp2_with (with_reducible refine wl_stop (o := ⟨some 11, _, _, _, _, _⟩) ?_)
  refine wl_allocS st4 rfl rfl (z := .agg #[.int .u64 0, .int .u64 0, .int .u64 0, .int .u64 0, .int .u64 0, .int .u64 0, .int .u64 0, .int .u64 0, .int .u64 0, .int .u64 0, .int .u64 0, .int .u64 0]) (by kernel_rfl) (cw 12 0) (by rw [cw_zero]; rfl) ?_
  intro g11 w5 st5
  clear st4
  go_wp2_with (with_reducible refine wl_stop (o := ⟨none, _, _, _, _, _⟩) ?_)
  refine wl_storeS st5 1 rfl rfl rfl rfl rfl (by first | (simp only [cw_len]; done) | (simp only [List.length_append, cw_len, RT.len, rpL_len]; done)) (by first | (rw [cw_len]; kernel_rfl) | (rw [RT.len]; kernel_rfl) | (rw [rpL_len]; kernel_rfl) | (simp only [List.length_append, cw_len]; kernel_rfl) | (simp only [List.length_append, cw_len, RT.len, rpL_len]; kernel_rfl)) (rpL_one _ _ _) ?_
  intro w6 st6
  clear st5
  go_wp2_with fail
  refine (RScalar_u c _).mono ?_
  rintro e' w7 ⟨N3, rfl, hn3, hf7⟩
  have st7 := st6.keep hf7
  have HN3 := Lib.hid hn3
  clear hn3
  clear st6 hf7
  go_wp2_with (with_reducible refine wl_stop (o := ⟨some 13, _, _, _, _, _⟩) ?_)
  refine wl_allocS st7 rfl rfl (z := .agg #[.int .u64 0, .int .u64 0, .int .u64 0, .int .u64 0]) (by kernel_rfl) (cw 4 0) (by rw [cw_zero]; rfl) ?_
  intro g13 w8 st8
  clear st7
  go_wp2_with (with_reducible refine wl_stop (o := ⟨none, _, _, _, _, _⟩) ?_)
  refine wl_storeS st8 2 rfl rfl rfl rfl rfl (by first | (simp only [cw_len]; done) | (simp only [List.length_append, cw_len, RT.len, rpL_len]; done)) (by first | (rw [cw_len]; kernel_rfl) | (rw [RT.len]; kernel_rfl) | (rw [rpL_len]; kernel_rfl) | (simp only [List.length_append, cw_len]; kernel_rfl) | (simp only [List.length_append, cw_len, RT.len, rpL_len]; kernel_rfl)) (cw_one _ _) ?_
  intro w9 st9
  clear st8
  go_wp2_with fail
  refine (RScalar_u z _).mono ?_
  rintro e' w10 ⟨N4, rfl, hn4, hf10⟩
  have st10 := st9.keep hf10
  have HN4 := Lib.hid hn4
  clear hn4
  clear st9 hf10
  go_wp2_with (with_reducible refine wl_stop (o := ⟨some 15, _, _, _, _, _⟩) ?_)
  refine wl_allocS st10 rfl rfl (z := .agg #[.int .u64 0, .int .u64 0, .int .u64 0, .int .u64 0]) (by kernel_rfl) (cw 4 0) (by rw [cw_zero]; rfl) ?_
  intro g15 w11 st11
  clear st10
  go_wp2_with (with_reducible refine wl_stop (o := ⟨none, _, _, _, _, _⟩) ?_)
  refine wl_storeS st11 3 rfl rfl rfl rfl rfl (by first | (simp only [cw_len]; done) | (simp only [List.length_append, cw_len, RT.len, rpL_len]; done)) (by first | (rw [cw_len]; kernel_rfl) | (rw [RT.len]; kernel_rfl) | (rw [rpL_len]; kernel_rfl) | (simp only [List.length_append, cw_len]; kernel_rfl) | (simp only [List.length_append, cw_len, RT.len, rpL_len]; kernel_rfl)) (cw_one _ _) ?_
  intro w12 st12
  clear st11
  rcases h1 : rdOk f.data.toList with _ | _
  · have hb : ansB f.data.toList p.data.toList c.data.toList z.data.toList = false := ans_no (by simp only [h1, Bool.false_and, Bool.and_false])
    have HB := Lib.hid hb
    clear hb h1
    have hfr := st12.fr
    clear st12
    generalize rdOk p.data.toList = q1 at *
    generalize numB mQ c.data.toList = q2 at *
    generalize numB mQ z.data.toList = q3 at *
    rcases q1 with _ | _ <;> rcases q2 with _ | _ <;> rcases q3 with _ | _ <;> (go_wp2_with fail; go_ret; exact ⟨(by rw [HB.out]; try rfl), hfr⟩)
  rcases h2 : rdOk p.data.toList with _ | _
  · have hb : ansB f.data.toList p.data.toList c.data.toList z.data.toList = false := ans_no (by simp only [h1, h2, Bool.false_and, Bool.and_false])
    have HB := Lib.hid hb
    clear hb h1 h2
    have hfr := st12.fr
    clear st12
    generalize numB mQ c.data.toList = q2 at *
    generalize numB mQ z.data.toList = q3 at *
    rcases q2 with _ | _ <;> rcases q3 with _ | _ <;> (go_wp2_with fail; go_ret; exact ⟨(by rw [HB.out]; try rfl), hfr⟩)
  rcases h3 : numB mQ c.data.toList with _ | _
  · have hb : ansB f.data.toList p.data.toList c.data.toList z.data.toList = false := ans_no (by simp only [h1, h2, h3, Bool.false_and, Bool.and_false])
    have HB := Lib.hid hb
    clear hb h1 h2 h3
    have hfr := st12.fr
    clear st12
    generalize numB mQ z.data.toList = q3 at *
    rcases q3 with _ | _ <;> (go_wp2_with fail; go_ret; exact ⟨(by rw [HB.out]; try rfl), hfr⟩)
  rcases h4 : numB mQ z.data.toList with _ | _
  · have hb : ansB f.data.toList p.data.toList c.data.toList z.data.toList = false := ans_no (by simp only [h1, h2, h3, h4, Bool.false_and, Bool.and_false])
    have HB := Lib.hid hb
    clear hb h1 h2 h3 h4
    have hfr := st12.fr
    clear st12
    (go_wp2_with fail; go_ret; exact ⟨(by rw [HB.out]; try rfl), hfr⟩)
  rw [HX1.out h1] at st12
  rw [HX2.out h2] at st12
  rw [HN3.out h3] at st12
  rw [HN4.out h4] at st12
  have K1 := Lib.hid h1
  have K2 := Lib.hid h2
  have K3 := Lib.hid h3
  have K4 := Lib.hid h4
  clear h1 h2 h3 h4 HX1 HX2 HN3 HN4
  go_wp2_with fail
  refine wp_region_noPanic ?_
  refine wp_region_plan (fun wx => St Nob w wx [(g9, (rdR f.data.toList).L, 26), (g11, (rdR p.data.toList).L, 26), (g13, cw 4 (beN c.data.toList), 24), (g15, cw 4 (beN z.data.toList), 24)]) 8 (.t 0 (.t 2 (.t 3 (.t 4 (.r 1 (.r 5 (.r 6 (.r 7 (.m 8 .nil))))))))) (by kernel_rfl) (by kernel_rfl) st12.drew (fun _ _ _ _ _ h => h) ?_
  have hd12 := st12.drew
  clear st12
  refine plan_arr rfl rfl rfl rfl (cw 4 (beN z.data.toList)) (fun wx hS => St.rangeL hS 3 rfl 0 _ (by rw [List.drop_zero, List.take_of_length_le (Nat.le_refl _)])) Try.underlying24 rfl (by first | (rw [cw_len]; kernel_rfl) | (rw [RT.len]; kernel_rfl) | (rw [rpL_len]; kernel_rfl) | (simp only [List.length_append, cw_len]; kernel_rfl) | (simp only [List.length_append, cw_len, RT.len, rpL_len]; kernel_rfl)) ?_
  try simp only [Act.put, List.setIfInBounds_toArray, List.set_cons_zero, List.set_cons_succ]
  refine plan_arr rfl rfl rfl rfl ((rdR f.data.toList).L) (fun wx hS => St.rangeL hS 0 rfl 0 _ (by rw [List.drop_zero, List.take_of_length_le (Nat.le_refl _)])) Try.underlying26 rfl (by first | (rw [cw_len]; kernel_rfl) | (rw [RT.len]; kernel_rfl) | (rw [rpL_len]; kernel_rfl) | (simp only [List.length_append, cw_len]; kernel_rfl) | (simp only [List.length_append, cw_len, RT.len, rpL_len]; kernel_rfl)) ?_
  try simp only [Act.put, List.setIfInBounds_toArray, List.set_cons_zero, List.set_cons_succ]
  refine plan_arr rfl rfl rfl rfl (cw 4 (beN c.data.toList)) (fun wx hS => St.rangeL hS 2 rfl 0 _ (by rw [List.drop_zero, List.take_of_length_le (Nat.le_refl _)])) Try.underlying24 rfl (by first | (rw [cw_len]; kernel_rfl) | (rw [RT.len]; kernel_rfl) | (rw [rpL_len]; kernel_rfl) | (simp only [List.length_append, cw_len]; kernel_rfl) | (simp only [List.length_append, cw_len, RT.len, rpL_len]; kernel_rfl)) ?_
  try simp only [Act.put, List.setIfInBounds_toArray, List.set_cons_zero, List.set_cons_succ]
  refine plan_arr rfl rfl rfl rfl ((rdR p.data.toList).L) (fun wx hS => St.rangeL hS 1 rfl 0 _ (by rw [List.drop_zero, List.take_of_length_le (Nat.le_refl _)])) Try.underlying26 rfl (by first | (rw [cw_len]; kernel_rfl) | (rw [RT.len]; kernel_rfl) | (rw [rpL_len]; kernel_rfl) | (simp only [List.length_append, cw_len]; kernel_rfl) | (simp only [List.length_append, cw_len, RT.len, rpL_len]; kernel_rfl)) ?_
  try simp only [Act.put, List.setIfInBounds_toArray, List.set_cons_zero, List.set_cons_succ]
  refine plan_r rfl rfl ?_
  go_simp
  refine (RBase5_c (beN z.data.toList) _).mono ?_
  rintro e' w13 ⟨rfl, hf13⟩
  have st13 := hd12.keep hf13
  clear hf13
  clear hd12
  refine ⟨st13, ?_⟩
  try simp only [Act.put, List.setIfInBounds_toArray, List.set_cons_zero, List.set_cons_succ]
  refine plan_r rfl rfl ?_
  go_simp
  refine (RTimes_c (beN c.data.toList) (rdR p.data.toList) _).mono ?_
  rintro e' w14 ⟨rfl, hf14⟩
  have st14 := st13.keep hf14
  clear hf14
  clear st13
  refine ⟨st14, ?_⟩
  try simp only [Act.put, List.setIfInBounds_toArray, List.set_cons_zero, List.set_cons_succ]
  refine plan_r rfl rfl ?_
  go_simp
  refine (RPlus_c (rdR f.data.toList) (timesR (beN c.data.toList) (rdR p.data.toList)) _).mono ?_
  rintro e' w15 ⟨rfl, hf15⟩
  have st15 := st14.keep hf15
  clear hf15
  clear st14
  refine ⟨st15, ?_⟩
  try simp only [Act.put, List.setIfInBounds_toArray, List.set_cons_zero, List.set_cons_succ]
  refine plan_r rfl rfl ?_
  go_simp
  refine (RSame_s f.data.toList p.data.toList c.data.toList z.data.toList K1.out K2.out K3.out K4.out _).mono ?_
  rintro e' w16 ⟨rfl, hf16⟩
  have st16 := st15.keep hf16
  clear hf16
  clear st15
  refine ⟨st16, ?_⟩
  try simp only [Act.put, List.setIfInBounds_toArray, List.set_cons_zero, List.set_cons_succ]
  refine plan_m rfl rfl ?_
  go_simp
  try simp only [Act.put, List.setIfInBounds_toArray, List.set_cons_zero, List.set_cons_succ]
  refine plan_end ?_
  refine NoPanic.normal ?_
  have hfr := st16.fr
  clear st16
  go_wp2_with fail
  go_ret
  exact ⟨(by rw [ans_yes K1.out K2.out K3.out K4.out]; try rfl), hfr⟩
end Go.Proofs.Ytdbgddngapminaa

/- The law SigmaSound. -/
namespace Go.Proofs.Ytdbgddngapminaa
open Go.RowKit Go.Mv Mvp Mvq
theorem ex_nums : numsB mQ [be32 1, be32 5, be32 0, be32 2] = true := by decide
theorem ex_vals : beN (be32 1) = 1 ∧ beN (be32 5) = 5 ∧ beN (be32 0) = 0 ∧ beN (be32 2) = 2 := by decide
theorem mulpow (M a b k : Nat) (h : b % M = 1 % M) : a * b ^ k % M = a % M := by
  rw [Nat.mul_mod, pow_one_mod k h, ← Nat.mul_mod, Nat.mul_one]
theorem sec_gen (M c1 z1 c2 z2 : Nat) (h : (c1 + (M - c2 % M)) % M = 1 % M) : secN M c1 z1 c2 z2 = (z1 + (M - z2 % M)) % M := by
  unfold secN
  exact mulpow M _ _ _ h
theorem sec_small : secN mQ.M 1 5 0 2 = 3 := (sec_gen mQ.M 1 5 0 2 (by decide)).trans (by decide)
theorem sm1 : (List.replicate 32 (Value.int .u8 0)).set 31 (.int .u8 ((1 : Nat) : Int)) = bs (be32 1) := by rfl
theorem sm5 : (List.replicate 32 (Value.int .u8 0)).set 31 (.int .u8 ((5 : Nat) : Int)) = bs (be32 5) := by rfl
theorem sm0 : (List.replicate 32 (Value.int .u8 0)).set 31 (.int .u8 ((0 : Nat) : Int)) = bs (be32 0) := by rfl
theorem sm2 : (List.replicate 32 (Value.int .u8 0)).set 31 (.int .u8 ((2 : Nat) : Int)) = bs (be32 2) := by rfl
theorem b3_31 : (be32 3).getD 31 0 = 3 := by decide
theorem Extract_sm (v1 v2 v3 v4 : Value) (w : World) (h1 : BPart w v1 (be32 1)) (h2 : BPart w v2 (be32 5)) (h3 : BPart w v3 (be32 0)) (h4 : BPart w v4 (be32 2)) :
    Calls Try.prog 31 #[v1, v2, v3, v4] w fun e w' => ∃ a c, e = .returned (.tuple #[.slice a 32 c, .int .i64 0]) ∧ RdB w' a 32 (be32 3) ∧ Fr Nob w w' := by
  obtain ⟨b1, b2, b3, b4⟩ := ex_vals
  refine (Extract_all mQ .one v1 _ v2 _ v3 _ v4 _ w h1 h2 h3 h4).mono ?_
  rintro e w' ⟨a, n, c, rfl, hr, hf⟩
  have e1 : exE mQ (be32 1) (be32 5) (be32 0) (be32 2) = 0 := by unfold exE; rw [if_pos ex_nums, b1, b3]; rfl
  have e2 : exS mQ (be32 1) (be32 5) (be32 0) (be32 2) = be32 3 := by unfold exS; rw [if_pos ex_nums, b1, b2, b3, b4, sec_small]; rfl
  rw [e2] at hr
  have hn : n = 32 := by rw [← hr.len, be32_len]
  subst hn
  exact ⟨a, c, by rw [e1]; rfl, hr, hf⟩
theorem sec_lt (M c1 z1 c2 z2 : Nat) (h : 0 < M) : secN M c1 z1 c2 z2 < M := Nat.mod_lt _ h
/-- of right answers: what Extract tells -/
theorem Extract_rt {l1 l2 l3 l4 : List UInt8} (k1 : numB mQ l1 = true) (k2 : numB mQ l2 = true) (k3 : numB mQ l3 = true) (k4 : numB mQ l4 = true) (hne : l1 ≠ l3) (v1 v2 v3 v4 : Value) (w : World) (h1 : BPart w v1 l1) (h2 : BPart w v2 l2) (h3 : BPart w v3 l3) (h4 : BPart w v4 l4) :
    Calls Try.prog 31 #[v1, v2, v3, v4] w fun e w' => ∃ v, e = .returned (.tuple #[v, .int .i64 0]) ∧ BPart w' v (be32 (secN qN (beN l1) (beN l2) (beN l3) (beN l4))) ∧ Fr Nob w w' := by
  have hl : ∀ {l : List UInt8}, numB mQ l = true → l.length = 32 := fun h => by unfold numB at h; simp only [Bool.and_eq_true, decide_eq_true_eq] at h; exact h.1
  have hn : numsB mQ [l1, l2, l3, l4] = true := by unfold numsB; simp only [List.all_cons, List.all_nil, k1, k2, k3, k4, Bool.and_self]
  have hb : (beN l1 == beN l3) = false := by simpa using fun h => hne (beN_inj 32 _ _ (hl k1) (hl k3) h)
  refine (Extract_ok mQ .one v1 _ v2 _ v3 _ v4 _ w h1 h2 h3 h4 hn (by rw [Nat.mod_eq_of_lt (numB_lt2 k1), Nat.mod_eq_of_lt (numB_lt2 k3)]; exact hb)).mono ?_
  rintro e w' ⟨a, c, rfl, hc, hr, hf⟩
  rw [qN_mQ] at hr
  exact ⟨_, rfl, ⟨a, 32, c, rfl, hc, hr⟩, hf⟩
theorem sol_eq {F P C Z : List UInt8} (h : ansB F P C Z = true) : rdOk F = true ∧ rdOk P = true ∧ numB mQ C = true ∧ numB mQ Z = true ∧ pmul (beN Z) gP = padd (rdPt F) (pmul (beN C) (rdPt P)) := by
  unfold ansB solB at h
  simp only [Bool.and_eq_true, decide_eq_true_eq] at h
  obtain ⟨⟨⟨⟨h1, h2⟩, h3⟩, h4⟩, h5⟩ := h
  exact ⟨h1, h2, h3, h4, h5⟩
theorem sound_law {F P C1 Z1 C2 Z2 : List UInt8} (h : ansB F P C1 Z1 = true) (h' : ansB F P C2 Z2 = true) (hne : C1 ≠ C2) :
    numB mQ (be32 (secN qN (beN C1) (beN Z1) (beN C2) (beN Z2))) = true ∧ pmul (beN (be32 (secN qN (beN C1) (beN Z1) (beN C2) (beN Z2)))) gP = rdPt P := by
  obtain ⟨a1, a2, a3, a4, a5⟩ := sol_eq h
  obtain ⟨_, _, b3, b4, b5⟩ := sol_eq h'
  have hl : ∀ {l : List UInt8}, numB mQ l = true → l.length = 32 := fun h => by unfold numB at h; simp only [Bool.and_eq_true, decide_eq_true_eq] at h; exact h.1
  have hs := sec_lt qN (beN C1) (beN Z1) (beN C2) (beN Z2) (by decide)
  have hb : beN (be32 (secN qN (beN C1) (beN Z1) (beN C2) (beN Z2))) = secN qN (beN C1) (beN Z1) (beN C2) (beN Z2) := beN_be32 _ (Nat.lt_trans hs (by decide))
  refine ⟨?_, ?_⟩
  · unfold numB
    rw [hb, be32_len, qN_mQ, decide_eq_true rfl, decide_eq_true hs]
    rfl
  · rw [hb]
    exact sound gP_on (rd_on a2) (rd_on a1) (by rw [← qN_mQ]; exact numB_lt2 a3) (by rw [← qN_mQ]; exact numB_lt2 b3) (fun e => hne (beN_inj 32 _ _ (hl a3) (hl b3) e)) a5 b5
attribute [local irreducible] limbs lw mix cw cSub cAdd cMul foldC valFrom beN laid be32 powm montT mstep elN mdL numB rtV rtOk kN kc kinv wrPt addR noR timesR tmsR RT.L gXn gYn rpL rdOk rdPt rdR secN ansB exE exS pmul
set_option maxHeartbeats 16000000 in
set_option maxRecDepth 1000000 in
theorem law_SigmaSound (s1 s2 s3 s4 s5 s6 : ByteArray) (w : World) : Calls Try.prog 7 #[.string s1, .string s2, .string s3, .string s4, .string s5, .string s6] w fun e w' => e = .returned (.bool true) ∧ Fr Nob w w' := by
  have FF := Lib.hid (Fr.refl Nob w)
  go_enter Try.func7, Try.ntmps7
  go_wp2_with fail
  refine (small_c 1 (be32 1) sm1 (be32_len _) _).mono ?_
  rintro e' w1 ⟨ga1, ca1, rfl, hb, hf⟩
  replace FF := Lib.hid (FF.out.then hf)
  have B1 := Lib.hid hb
  clear hf hb
  go_wp2_with fail
  refine (small_c 5 (be32 5) sm5 (be32_len _) _).mono ?_
  rintro e' w2 ⟨ga2, ca2, rfl, hb, hf⟩
  replace B1 := Lib.hid (B1.out.still hf)
  replace FF := Lib.hid (FF.out.then hf)
  have B2 := Lib.hid hb
  clear hf hb
  go_wp2_with fail
  refine (small_c 0 (be32 0) sm0 (be32_len _) _).mono ?_
  rintro e' w3 ⟨ga3, ca3, rfl, hb, hf⟩
  replace B1 := Lib.hid (B1.out.still hf)
  replace B2 := Lib.hid (B2.out.still hf)
  replace FF := Lib.hid (FF.out.then hf)
  have B3 := Lib.hid hb
  clear hf hb
  go_wp2_with fail
  refine (small_c 2 (be32 2) sm2 (be32_len _) _).mono ?_
  rintro e' w4 ⟨ga4, ca4, rfl, hb, hf⟩
  replace B1 := Lib.hid (B1.out.still hf)
  replace B2 := Lib.hid (B2.out.still hf)
  replace B3 := Lib.hid (B3.out.still hf)
  replace FF := Lib.hid (FF.out.then hf)
  have B4 := Lib.hid hb
  clear hf hb
  go_wp2_with fail
  refine (Extract_sm _ _ _ _ _ B1.out B2.out B3.out B4.out).mono ?_
  rintro e' w5 ⟨at_, ct_, rfl, hr, hf⟩
  replace B1 := Lib.hid (B1.out.still hf)
  replace B2 := Lib.hid (B2.out.still hf)
  replace B3 := Lib.hid (B3.out.still hf)
  replace B4 := Lib.hid (B4.out.still hf)
  replace FF := Lib.hid (FF.out.then hf)
  clear hf
  clear B1 B2 B3 B4
  obtain ⟨bt, ot, het, hct⟩ := hr.at (by decide)
  subst het
  have hc31 := hct 31 (by decide)
  rw [b3_31] at hc31
  replace hc31 : w5.cell? ⟨bt, ot + 31, none⟩ = some (.int .u8 3) := hc31
  clear hct hr
  by_cases hz1 : 4096 < s1.size
  · have hJ : (4096 : Int) < (s1.size : Int) := by omega
    have hfr := FF.out
    go_wp2_with fail
    go_ret
    exact ⟨rfl, hfr⟩
  have hI1 : ¬ ((4096 : Int) < (s1.size : Int)) := by omega
  have HZ1 := Lib.hid hz1
  clear hz1
  by_cases hz2 : 4096 < s2.size
  · have hJ : (4096 : Int) < (s2.size : Int) := by omega
    have hfr := FF.out
    go_wp2_with fail
    go_ret
    exact ⟨rfl, hfr⟩
  have hI2 : ¬ ((4096 : Int) < (s2.size : Int)) := by omega
  have HZ2 := Lib.hid hz2
  clear hz2
  by_cases hz3 : 4096 < s3.size
  · have hJ : (4096 : Int) < (s3.size : Int) := by omega
    have hfr := FF.out
    go_wp2_with fail
    go_ret
    exact ⟨rfl, hfr⟩
  have hI3 : ¬ ((4096 : Int) < (s3.size : Int)) := by omega
  have HZ3 := Lib.hid hz3
  clear hz3
  by_cases hz4 : 4096 < s4.size
  · have hJ : (4096 : Int) < (s4.size : Int) := by omega
    have hfr := FF.out
    go_wp2_with fail
    go_ret
    exact ⟨rfl, hfr⟩
  have hI4 : ¬ ((4096 : Int) < (s4.size : Int)) := by omega
  have HZ4 := Lib.hid hz4
  clear hz4
  by_cases hz5 : 4096 < s5.size
  · have hJ : (4096 : Int) < (s5.size : Int) := by omega
    have hfr := FF.out
    go_wp2_with fail
    go_ret
    exact ⟨rfl, hfr⟩
  have hI5 : ¬ ((4096 : Int) < (s5.size : Int)) := by omega
  have HZ5 := Lib.hid hz5
  clear hz5
  by_cases hz6 : 4096 < s6.size
  · have hJ : (4096 : Int) < (s6.size : Int) := by omega
    have hfr := FF.out
    go_wp2_with fail
    go_ret
    exact ⟨rfl, hfr⟩
  have hI6 : ¬ ((4096 : Int) < (s6.size : Int)) := by omega
  have HZ6 := Lib.hid hz6
  clear hz6
  go_wp2_with fail
  refine (answers_c s1 s2 s3 s4 _).mono ?_
  rintro e' w6 ⟨rfl, hf⟩
  replace FF := Lib.hid (FF.out.then hf)
  clear hc31 hI1 hI2 hI3 hI4 hI5 hI6
  clear hf
  go_wp2_with fail
  refine (answers_c s1 s2 s5 s6 _).mono ?_
  rintro e' w7 ⟨rfl, hf⟩
  replace FF := Lib.hid (FF.out.then hf)
  clear hf
  by_cases heq : s3 = s5
  · subst heq
    have hfr := FF.out
    generalize ansB s1.data.toList s2.data.toList s3.data.toList s4.data.toList = q1
    generalize ansB _ _ _ _ = q2
    rcases q1 with _ | _ <;> rcases q2 with _ | _ <;> (go_wp2_with fail; go_ret; exact ⟨rfl, hfr⟩)
  have hne1 : ¬ s3.toList = s5.toList := fun h => heq (by rw [toList_data, toList_data] at h; exact ByteArray.ext (Array.toList_inj.1 h))
  have hne2 : (s3.toList == s5.toList) = false := by simpa using hne1
  have HNE := Lib.hid (show s3.data.toList ≠ s5.data.toList from fun h => heq (ByteArray.ext (Array.toList_inj.1 h)))
  clear heq
  rcases ha : ansB s1.data.toList s2.data.toList s3.data.toList s4.data.toList with _ | _
  · have hfr := FF.out
    clear ha
    generalize ansB s1.data.toList s2.data.toList s5.data.toList s6.data.toList = q2
    rcases q2 with _ | _ <;> (go_wp2_with fail; go_ret; exact ⟨rfl, hfr⟩)
  rcases hb : ansB s1.data.toList s2.data.toList s5.data.toList s6.data.toList with _ | _
  · have hfr := FF.out
    clear ha hb
    go_wp2_with fail
    go_ret
    exact ⟨rfl, hfr⟩
  have HK := Lib.hid (sound_law ha hb HNE.out)
  have K1 := Lib.hid (sol_eq ha)
  have K2 := Lib.hid (sol_eq hb)
  clear ha hb
  go_wp2_with (with_reducible refine wl_stop (o := ⟨some 97, _, _, _, _, _⟩) ?_)
  refine wl_bytes (q := s3) rfl rfl Try.underlying9 Try.underlying34 Try.underlying5 rfl (by have := HZ3.out; unfold maxLen; omega) 0 (Nat.zero_le _) ?_
  intro cap1 w8 ho hf hz
  clear hz
  replace FF := Lib.hid (FF.out.then hf)
  have B1 := Lib.hid (BPart.ofOwn ho)
  clear hf ho
  generalize w7.heap.size = gb1 at *
  go_wp2_with (with_reducible refine wl_stop (o := ⟨some 99, _, _, _, _, _⟩) ?_)
  refine wl_bytes (q := s4) rfl rfl Try.underlying9 Try.underlying34 Try.underlying5 rfl (by have := HZ4.out; unfold maxLen; omega) 0 (Nat.zero_le _) ?_
  intro cap2 w9 ho hf hz
  clear hz
  replace B1 := Lib.hid (B1.out.still hf)
  replace FF := Lib.hid (FF.out.then hf)
  have B2 := Lib.hid (BPart.ofOwn ho)
  clear hf ho
  generalize w8.heap.size = gb2 at *
  go_wp2_with (with_reducible refine wl_stop (o := ⟨some 101, _, _, _, _, _⟩) ?_)
  refine wl_bytes (q := s5) rfl rfl Try.underlying9 Try.underlying34 Try.underlying5 rfl (by have := HZ5.out; unfold maxLen; omega) 0 (Nat.zero_le _) ?_
  intro cap3 w10 ho hf hz
  clear hz
  replace B1 := Lib.hid (B1.out.still hf)
  replace B2 := Lib.hid (B2.out.still hf)
  replace FF := Lib.hid (FF.out.then hf)
  have B3 := Lib.hid (BPart.ofOwn ho)
  clear hf ho
  generalize w9.heap.size = gb3 at *
  go_wp2_with (with_reducible refine wl_stop (o := ⟨some 103, _, _, _, _, _⟩) ?_)
  refine wl_bytes (q := s6) rfl rfl Try.underlying9 Try.underlying34 Try.underlying5 rfl (by have := HZ6.out; unfold maxLen; omega) 0 (Nat.zero_le _) ?_
  intro cap4 w11 ho hf hz
  clear hz
  replace B1 := Lib.hid (B1.out.still hf)
  replace B2 := Lib.hid (B2.out.still hf)
  replace B3 := Lib.hid (B3.out.still hf)
  replace FF := Lib.hid (FF.out.then hf)
  have B4 := Lib.hid (BPart.ofOwn ho)
  clear hf ho
  generalize w10.heap.size = gb4 at *
  go_wp2_with fail
  refine (Extract_rt K1.out.2.2.1 K1.out.2.2.2.1 K2.out.2.2.1 K2.out.2.2.2.1 HNE.out _ _ _ _ _ B1.out B2.out B3.out B4.out).mono ?_
  rintro e' w12 ⟨vx, rfl, hx, hf⟩
  replace B1 := Lib.hid (B1.out.still hf)
  replace B2 := Lib.hid (B2.out.still hf)
  replace B3 := Lib.hid (B3.out.still hf)
  replace B4 := Lib.hid (B4.out.still hf)
  replace FF := Lib.hid (FF.out.then hf)
  clear B1 B2 B3 B4 hne1 hne2
  have BX := Lib.hid hx
  clear hf hx
  go_wp2_with fail
  refine (Base_p _).mono ?_
  rintro e' w13 ⟨ag, cg, rfl, hg, hf⟩
  replace BX := Lib.hid (BX.out.still hf)
  replace FF := Lib.hid (FF.out.then hf)
  have Bg := Lib.hid hg
  clear hf hg
  go_wp2_with fail
  refine (Times_p HK.out.1 gP_on HK.out.2 _ _ _ _ BX.out Bg.out).mono ?_
  rintro e' w14 ⟨ap, cp, rfl, hp, hf⟩
  replace BX := Lib.hid (BX.out.still hf)
  replace Bg := Lib.hid (Bg.out.still hf)
  replace FF := Lib.hid (FF.out.then hf)
  have Bp := Lib.hid hp
  clear hf hp
  have sp := run_string (P := Try.prog) (PtB.rd Bp.out) cp Try.underlying34 Try.underlying5 Try.underlying9
  rw [wr_rd K1.out.2.1, mkS_data] at sp
  have hfr := FF.out
  clear BX Bg Bp
  go_wp2_with fail
  go_ret
  exact ⟨rfl, hfr⟩
end Go.Proofs.Ytdbgddngapminaa

/- From a walk that turns nothing (Fr Nob) to what a law's row asks behind the call. -/
namespace Go.Mv
open Go.RowKit Go.ChangeShapes Go.WideShapes

/-- the arguments read behind the call as they read before -/
theorem Below.trodAll {H : Type} {enc : TypeId × Value → H} {P : Program} (hl : laidOutB P = true) {W W' : World} (hb : Below W.heap.size W W') :
    ∀ (ts : List TypeId) (vs : List Value) (ds : List (DataW H)) (ps : List MemPlace), (∀ t ∈ ts, P.readableRec t = true ∧ t < P.types.size) → DataW.TrodAll enc P W 0 (fun _ => true) true ts vs ds ps → (∀ x ∈ ps, x.block < W.heap.size) →
      DataW.TrodAll enc P W' 0 (fun b => decide (b < W.heap.size)) true ts vs ds ps
  | [], vs, ds, ps, _, h, _ => by
    obtain ⟨rfl, rfl, rfl⟩ := trodAll_nil h
    exact trodAll_mk0
  | t :: ts, vs, ds, ps, hr, h, hlt => by
    obtain ⟨v, vs', d, ds', p, q, rfl, rfl, rfl, h0, hs⟩ := trodAll_cons h
    have h1 := hr t (by simp)
    exact trodAll_cons_mk (Below.trod hl h1.1 h1.2 h0 hb (fun x hx => hlt x (by simp [hx]))) (Below.trodAll hl hb ts vs' ds' q (fun t ht => hr t (by simp [ht])) hs (fun x hx => hlt x (by simp [hx])))

/-- what a law's row asks behind the call -/
theorem law_post {H : Type} {enc : TypeId × Value → H} {P : Program} {f : Func} {s : ChangeSpec} {W W' : World} {args : Array Value} {ds gs : List (DataW H)} {before : List MemPlace}
    (hl : laidOutB P = true) (hr : ∀ t ∈ f.params.toList, P.readableRec t = true ∧ t < P.types.size) (hW : DataW.Whole enc P f.params.toList s.vars false W args.toList ds gs before)
    (hv : s.vars = []) (hres : (s.fn H (ds ++ gs)).results = [.lit (.bool true)]) (harg : (s.fn H (ds ++ gs)).args = ds) (hvar : (s.fn H (ds ++ gs)).vars = [])
    {tb : TypeId} (hrt : f.resultTypes = #[tb]) (hu : P.underlying tb = some .bool) (hf : Fr Nob W W') :
    s.post enc P f false true false false W args (.bool true) W' := by
  have hW' := hW
  obtain ⟨p, q, hA, hV, rfl, hfz, hnd⟩ := hW
  rw [hv] at hV
  obtain ⟨rfl, rfl⟩ := trodVars_none hV
  have hlt : ∀ x ∈ p ++ [], x.block < W.heap.size := fun x hx => hW'.lt x hx
  refine ⟨ds, [], p ++ [], [], p, [], hW', ?_, ?_, ?_, World.keptBut_mono (fun x hx => ⟨hx, ?_⟩) (hf.below.frame (· ∈ p ++ [])), fun h => by cases h⟩
  · rw [hres, hrt]
    exact trodAll_mk1 (shut_bool hu true)
  · rw [harg]
    exact Below.trodAll hl hf.below _ _ _ _ hr hA (fun x hx => hlt x (by simp [hx]))
  · rw [hvar, hv]; exact rfl
  · simp only [List.append_nil] at hx
    exact .inr (.inl hx)
end Go.Mv

/- Arguments that were handed in, opened into the words of Mem. -/
namespace Go.Mv
open Go.RowKit Go.ChangeShapes Go.WideShapes

section
variable {H : Type} {enc : TypeId × Value → H} {P : Program} {w : World} {base : Nat} {held : Bool} {spare : Nat → Bool}
end
end Go.Mv
