/- group: at; Primes, plainly: trial division, Fermat, Pocklington; The two primes are primes: certificates; Polynomials in three coordinates, and in the roots over them, reckoned with: how the sum of three points is shown not to hang on brackets; The complete sum of points, over polynomials; Three points' sum: first and last coordinate; Three points' sum: second and last coordinate; The complete sum of points does not hang on brackets; The field of the curve, and the curve's points: inverses; no root of -7; the complete sum is never empty; The curve's points: a group; Chord and tangent; the program's sum and double (X / Z^2, Y / Z^3); the reference's (X / Z, Y / Z); multiples; The reference's sums (X / Z, Y / Z); numbers as members of the field; sums of multiples, digit by digit; A program's point: what it stands for; its double as the group's; group: nothing, plus; group: plus, of two points that are not nothing; A program's sum of two points as the group's; A field's laws, plainly: inverses, roots of squares. -/
import Derived.Test.YtemcankmggmgoaaDoorMgKeysTrueProof4
import Derived.Test.YtemcankmggmgoaaDoorMgKeysTrueProof1
import Derived.Test.YtemcankmggmgoaaDoorMgKeysTrueProof3
namespace Go.Proofs.YtemcankmggmgoaaDoor
open Go.RowKit Go.Mv Mvp
attribute [local irreducible] limbs lw mix cw cSub cAdd cMul beN laid be32 montT mstep elN mdL numB rtN rtV rtOk
set_option maxHeartbeats 16000000 in
set_option maxRecDepth 1000000 in
theorem at_ok (m : Md) (gc gp bx by_ : Nat) (w : World) (hok : m.Ok) (hcv : Has w gc (crvL m gp bx by_) 57) (hpm : Has w gp (mdL m) 72) (x xx x3 cv : Nat) (exx : x * x = xx) (ex3 : xx * x = x3) (ecv : x3 + 7 = cv) (hr : rtOk m.M cv = true) :
    Calls Tryd.prog 53 #[.pointer (some ⟨gc, 0, none⟩), i4 (elN m x)] w fun e w' => e = .returned (.tuple #[ptV m x (rtV m.M cv) 1, .bool true]) ∧ Fr Nob w w' := by
  have HOK := Lib.hid hok
  have HCV := Lib.hid hcv
  have HPM := Lib.hid hpm
  clear hok hcv hpm
  have HR := Lib.hid hr
  have Hxx := Lib.hid exx
  have Hx3 := Lib.hid ex3
  have Hcv := Lib.hid ecv
  clear hr exx ex3 ecv
  have st0 := St.start Nob w
  go_enter Tryd.func53, Tryd.ntmps53
  go_wp2_with (with_reducible refine wl_stop (o := ⟨some 3, _, _, _, _, _⟩) ?_)
  refine wl_boxS st0 rfl rfl rfl (cw 4 (elN m x)) rfl ?_
  intro g3 w1 st1
  clear st0
  go_wp2_with (with_reducible refine wl_stop (o := ⟨some 4, _, _, _, _, _⟩) ?_)
  refine wl_allocS st1 rfl rfl (z := .agg #[.int .u64 0, .int .u64 0, .int .u64 0, .int .u64 0, .int .u64 0, .int .u64 0, .int .u64 0, .int .u64 0, .int .u64 0, .int .u64 0, .int .u64 0, .int .u64 0]) (by kernel_rfl) (cw 12 0) (by rw [cw_zero]; rfl) ?_
  intro g4 w2 st2
  clear st1
  go_wp2_with fail
  refine wp_region_noPanic ?_
  refine wp_region_lad st2 31 [.o 29, .w 0, .w 1, .w 2, .t 3, .w 4, .w 5, .w 6, .t 7, .w 8, .w 9, .w 10, .t 11, .w 12, .w 13, .w 14, .t 15, .t 16, .t 18, .w 20, .w 21, .w 22, .t 23, .c 17, .c 19, .c 24, .c 25, .w 26, .w 27, .w 28, .j 29] (.r 30 (.m 31 .nil)) (by kernel_rfl) (by kernel_rfl) (fun _ _ _ _ _ h => h) ?_
  clear st2
  refine lad_o rfl rfl rfl z_ge (cw 4 0) rfl ?_
  try simp only [Go.Mv.clL]
  iterate 3 (refine lad_w (v := ?_) rfl rfl (fun xq wx => ?_) ?_; rotate_left 1; · (go_simp; with_reducible rfl); try simp only [Go.Mv.clL])
  refine lad_t (v := ?_) rfl rfl (fun xq wx hS => ?_) ?_
  rotate_left 1
  · (have hc := (HCV.out.keep (St.fr hS) id).cell (i := 0) rfl; clear hS; go_simp; with_reducible rfl)
  try simp only [Go.Mv.clL]
  iterate 3 (refine lad_w (v := ?_) rfl rfl (fun xq wx => ?_) ?_; rotate_left 1; · (go_simp; with_reducible rfl); try simp only [Go.Mv.clL])
  refine lad_t (v := ?_) rfl rfl (fun xq wx hS => ?_) ?_
  rotate_left 1
  · (have hc := (HCV.out.keep (St.fr hS) id).cell (i := 0) rfl; clear hS; go_simp; with_reducible rfl)
  try simp only [Go.Mv.clL]
  iterate 3 (refine lad_w (v := ?_) rfl rfl (fun xq wx => ?_) ?_; rotate_left 1; · (go_simp; with_reducible rfl); try simp only [Go.Mv.clL])
  refine lad_t (v := ?_) rfl rfl (fun xq wx hS => ?_) ?_
  rotate_left 1
  · (have hc := (HCV.out.keep (St.fr hS) id).cell (i := 0) rfl; clear hS; go_simp; with_reducible rfl)
  try simp only [Go.Mv.clL]
  iterate 3 (refine lad_w (v := ?_) rfl rfl (fun xq wx => ?_) ?_; rotate_left 1; · (go_simp; with_reducible rfl); try simp only [Go.Mv.clL])
  refine lad_t (v := ?_) rfl rfl (fun xq wx hS => ?_) ?_
  rotate_left 1
  · (have hc := (HCV.out.keep (St.fr hS) id).cell (i := 0) rfl; clear hS; go_simp; with_reducible rfl)
  try simp only [Go.Mv.clL]
  refine lad_arr rfl rfl rfl (fun _ => rfl) (cw 4 (elN m x)) (fun wx hS => St.rangeL hS 0 rfl 0 _ (by rw [List.drop_zero, List.take_of_length_le (Nat.le_refl _)])) Tryd.underlying47 rfl (by kernel_rfl) ?_
  try simp only [Go.Mv.clL]
  refine lad_arr rfl rfl rfl (fun _ => rfl) (cw 4 (elN m x)) (fun wx hS => St.rangeL hS 0 rfl 0 _ (by rw [List.drop_zero, List.take_of_length_le (Nat.le_refl _)])) Tryd.underlying47 rfl (by kernel_rfl) ?_
  try simp only [Go.Mv.clL]
  iterate 3 (refine lad_w (v := ?_) rfl rfl (fun xq wx => ?_) ?_; rotate_left 1; · (go_simp; with_reducible rfl); try simp only [Go.Mv.clL])
  refine lad_arr rfl rfl rfl (fun _ => rfl) (cw 4 (elN m 7)) (fun wx hS => (HCV.out.keep (St.fr hS) id).range 1 _ (crv_seven m gp bx by_)) Tryd.underlying47 rfl (by kernel_rfl) ?_
  try simp only [Go.Mv.clL]
  refine lad_call rfl rfl rfl Tryd.call38 (fun w hS hR => MSquare_v m gp _ HOK.out (HPM.out.keep hS.fr id) x xx Hxx.out) (fun _ => rfl) ?_
  try simp only [Go.Mv.clL]
  refine lad_call rfl rfl rfl Tryd.call40 (fun w hS hR => MMul_v m gp _ HOK.out (HPM.out.keep hS.fr id) xx x x3 Hx3.out) (fun _ => rfl) ?_
  try simp only [Go.Mv.clL]
  refine lad_call rfl rfl rfl Tryd.call67 (fun w hS hR => MAdd_v m gp _ HOK.out (HPM.out.keep hS.fr id) x3 7 cv Hcv.out) (fun _ => rfl) ?_
  try simp only [Go.Mv.clL]
  refine lad_call rfl rfl rfl Tryd.call69 (fun w hS hR => MSqrt_ok m gp _ HOK.out (HPM.out.keep hS.fr id) cv HR.out) (fun _ => rfl) ?_
  try simp only [Go.Mv.clL]
  iterate 3 (refine lad_w (v := ?_) rfl rfl (fun xq wx => ?_) ?_; rotate_left 1; · (go_simp; with_reducible rfl); try simp only [Go.Mv.clL])
  refine lad_j List.mem_cons_self fun g6 => ?_
  simp only [upd, reduceIte]
  refine lad_end fun xq w3 st3 hR => ?_
  try dsimp only
  clear hR xq
  refine plan_r rfl rfl ?_
  refine wp_storeS st3 2 rfl rfl rfl rfl (by simp [cw_len]) (by kernel_rfl) (cw_one _ _) ?_
  intro w4 st4
  repeat (first | simp only [List.cons_append] at st4 | simp only [List.nil_append] at st4 | simp only [List.set_cons_succ] at st4 | simp only [List.set_cons_zero] at st4)
  clear st3
  refine ⟨by first | exact st4 | exact St.less st4 (by simp), ?_⟩
  try simp only [Act.put]
  refine plan_m rfl rfl ?_
  go_simp
  try simp only [Go.Mv.clL]
  refine plan_end ?_
  refine NoPanic.normal ?_
  go_wp2_with fail
  refine wp_region_noPanic ?_
  refine wp_region_lad st4 9 [.t 0, .t 1, .w 2, .w 3, .w 4, .t 5, .w 8, .c 6, .w 7] (.m 9 (.w 10 .nil)) (by kernel_rfl) (by kernel_rfl) (fun _ _ _ _ _ h => h) ?_
  clear st4
  refine lad_arr rfl rfl rfl (fun _ => rfl) (cw 4 (elN m x)) (fun wx hS => St.rangeL hS 0 rfl 0 _ (by rw [List.drop_zero, List.take_of_length_le (Nat.le_refl _)])) Tryd.underlying47 rfl (by kernel_rfl) ?_
  try simp only [Go.Mv.clL]
  refine lad_arr rfl rfl rfl (fun _ => rfl) (cw 4 (elN m (rtV m.M cv))) (fun wx hS => St.rangeL hS 2 rfl 0 _ (by rw [List.drop_zero, List.take_of_length_le (Nat.le_refl _)])) Tryd.underlying47 rfl (by kernel_rfl) ?_
  try simp only [Go.Mv.clL]
  iterate 3 (refine lad_w (v := ?_) rfl rfl (fun xq wx => ?_) ?_; rotate_left 1; · (go_simp; with_reducible rfl); try simp only [Go.Mv.clL])
  refine lad_t (v := ?_) rfl rfl (fun xq wx hS => ?_) ?_
  rotate_left 1
  · (have hc := (HCV.out.keep (St.fr hS) id).cell (i := 0) rfl; clear hS; go_simp; with_reducible rfl)
  try simp only [Go.Mv.clL]
  refine lad_w (v := ?_) rfl rfl (fun xq wx => ?_) ?_; rotate_left 1; · (go_simp; with_reducible rfl)
  try simp only [Go.Mv.clL]
  refine lad_call rfl rfl rfl Tryd.call33 (fun w hS hR => MOne_any m gp _ HOK.out (HPM.out.keep hS.fr id)) (fun _ => rfl) ?_
  try simp only [Go.Mv.clL]
  refine lad_w rfl rfl (fun _ => exec_build rfl _ (built_pt _ _ _)) ?_
  try simp only [Go.Mv.clL]
  refine lad_end fun xq w5 st5 hR => ?_
  try dsimp only
  clear hR xq
  refine plan_m rfl rfl ?_
  refine wp_storeS st5 1 rfl rfl rfl rfl (by simp [cw_len]) (by kernel_rfl) (pt_one _ _ _) ?_
  intro w6 st6
  try simp only [List.set_cons_zero, List.set_cons_succ] at st6
  clear st5
  try simp only [Act.put]
  refine plan_w (v := ?_) rfl rfl (fun wx => ?_) ?_; rotate_left 1; · (go_simp; with_reducible rfl)
  try simp only [Go.Mv.clL]
  refine plan_end ?_
  refine NoPanic.normal ?_
  have hr := st6.at 1 rfl
  have hfr := st6.fr
  clear st6
  go_wp2_with fail
  exact bodyPost_ret (results_st2 rfl rfl hr Tryd.underlying49 rfl (by kernel_rfl) rfl) rfl ⟨by unfold ptV ptL; rfl, hfr⟩

set_option maxHeartbeats 16000000 in
set_option maxRecDepth 1000000 in
theorem at_no (m : Md) (gc gp bx by_ : Nat) (w : World) (hok : m.Ok) (hcv : Has w gc (crvL m gp bx by_) 57) (hpm : Has w gp (mdL m) 72) (x xx x3 cv : Nat) (exx : x * x = xx) (ex3 : xx * x = x3) (ecv : x3 + 7 = cv) (hr : rtOk m.M cv = false) :
    Calls Tryd.prog 53 #[.pointer (some ⟨gc, 0, none⟩), i4 (elN m x)] w fun e w' => e = .returned (.tuple #[ptV m x (0) 1, .bool false]) ∧ Fr Nob w w' := by
  have HOK := Lib.hid hok
  have HCV := Lib.hid hcv
  have HPM := Lib.hid hpm
  clear hok hcv hpm
  have HR := Lib.hid hr
  have Hxx := Lib.hid exx
  have Hx3 := Lib.hid ex3
  have Hcv := Lib.hid ecv
  clear hr exx ex3 ecv
  have st0 := St.start Nob w
  go_enter Tryd.func53, Tryd.ntmps53
  go_wp2_with (with_reducible refine wl_stop (o := ⟨some 3, _, _, _, _, _⟩) ?_)
  refine wl_boxS st0 rfl rfl rfl (cw 4 (elN m x)) rfl ?_
  intro g3 w1 st1
  clear st0
  go_wp2_with (with_reducible refine wl_stop (o := ⟨some 4, _, _, _, _, _⟩) ?_)
  refine wl_allocS st1 rfl rfl (z := .agg #[.int .u64 0, .int .u64 0, .int .u64 0, .int .u64 0, .int .u64 0, .int .u64 0, .int .u64 0, .int .u64 0, .int .u64 0, .int .u64 0, .int .u64 0, .int .u64 0]) (by kernel_rfl) (cw 12 0) (by rw [cw_zero]; rfl) ?_
  intro g4 w2 st2
  clear st1
  go_wp2_with fail
  refine wp_region_noPanic ?_
  refine wp_region_lad st2 31 [.o 29, .w 0, .w 1, .w 2, .t 3, .w 4, .w 5, .w 6, .t 7, .w 8, .w 9, .w 10, .t 11, .w 12, .w 13, .w 14, .t 15, .t 16, .t 18, .w 20, .w 21, .w 22, .t 23, .c 17, .c 19, .c 24, .c 25, .w 26, .w 27, .w 28, .j 29] (.r 30 (.m 31 .nil)) (by kernel_rfl) (by kernel_rfl) (fun _ _ _ _ _ h => h) ?_
  clear st2
  refine lad_o rfl rfl rfl z_ge (cw 4 0) rfl ?_
  try simp only [Go.Mv.clL]
  iterate 3 (refine lad_w (v := ?_) rfl rfl (fun xq wx => ?_) ?_; rotate_left 1; · (go_simp; with_reducible rfl); try simp only [Go.Mv.clL])
  refine lad_t (v := ?_) rfl rfl (fun xq wx hS => ?_) ?_
  rotate_left 1
  · (have hc := (HCV.out.keep (St.fr hS) id).cell (i := 0) rfl; clear hS; go_simp; with_reducible rfl)
  try simp only [Go.Mv.clL]
  iterate 3 (refine lad_w (v := ?_) rfl rfl (fun xq wx => ?_) ?_; rotate_left 1; · (go_simp; with_reducible rfl); try simp only [Go.Mv.clL])
  refine lad_t (v := ?_) rfl rfl (fun xq wx hS => ?_) ?_
  rotate_left 1
  · (have hc := (HCV.out.keep (St.fr hS) id).cell (i := 0) rfl; clear hS; go_simp; with_reducible rfl)
  try simp only [Go.Mv.clL]
  iterate 3 (refine lad_w (v := ?_) rfl rfl (fun xq wx => ?_) ?_; rotate_left 1; · (go_simp; with_reducible rfl); try simp only [Go.Mv.clL])
  refine lad_t (v := ?_) rfl rfl (fun xq wx hS => ?_) ?_
  rotate_left 1
  · (have hc := (HCV.out.keep (St.fr hS) id).cell (i := 0) rfl; clear hS; go_simp; with_reducible rfl)
  try simp only [Go.Mv.clL]
  iterate 3 (refine lad_w (v := ?_) rfl rfl (fun xq wx => ?_) ?_; rotate_left 1; · (go_simp; with_reducible rfl); try simp only [Go.Mv.clL])
  refine lad_t (v := ?_) rfl rfl (fun xq wx hS => ?_) ?_
  rotate_left 1
  · (have hc := (HCV.out.keep (St.fr hS) id).cell (i := 0) rfl; clear hS; go_simp; with_reducible rfl)
  try simp only [Go.Mv.clL]
  refine lad_arr rfl rfl rfl (fun _ => rfl) (cw 4 (elN m x)) (fun wx hS => St.rangeL hS 0 rfl 0 _ (by rw [List.drop_zero, List.take_of_length_le (Nat.le_refl _)])) Tryd.underlying47 rfl (by kernel_rfl) ?_
  try simp only [Go.Mv.clL]
  refine lad_arr rfl rfl rfl (fun _ => rfl) (cw 4 (elN m x)) (fun wx hS => St.rangeL hS 0 rfl 0 _ (by rw [List.drop_zero, List.take_of_length_le (Nat.le_refl _)])) Tryd.underlying47 rfl (by kernel_rfl) ?_
  try simp only [Go.Mv.clL]
  iterate 3 (refine lad_w (v := ?_) rfl rfl (fun xq wx => ?_) ?_; rotate_left 1; · (go_simp; with_reducible rfl); try simp only [Go.Mv.clL])
  refine lad_arr rfl rfl rfl (fun _ => rfl) (cw 4 (elN m 7)) (fun wx hS => (HCV.out.keep (St.fr hS) id).range 1 _ (crv_seven m gp bx by_)) Tryd.underlying47 rfl (by kernel_rfl) ?_
  try simp only [Go.Mv.clL]
  refine lad_call rfl rfl rfl Tryd.call38 (fun w hS hR => MSquare_v m gp _ HOK.out (HPM.out.keep hS.fr id) x xx Hxx.out) (fun _ => rfl) ?_
  try simp only [Go.Mv.clL]
  refine lad_call rfl rfl rfl Tryd.call40 (fun w hS hR => MMul_v m gp _ HOK.out (HPM.out.keep hS.fr id) xx x x3 Hx3.out) (fun _ => rfl) ?_
  try simp only [Go.Mv.clL]
  refine lad_call rfl rfl rfl Tryd.call67 (fun w hS hR => MAdd_v m gp _ HOK.out (HPM.out.keep hS.fr id) x3 7 cv Hcv.out) (fun _ => rfl) ?_
  try simp only [Go.Mv.clL]
  refine lad_call rfl rfl rfl Tryd.call69 (fun w hS hR => MSqrt_no m gp _ HOK.out (HPM.out.keep hS.fr id) cv HR.out) (fun _ => rfl) ?_
  try simp only [Go.Mv.clL]
  iterate 3 (refine lad_w (v := ?_) rfl rfl (fun xq wx => ?_) ?_; rotate_left 1; · (go_simp; with_reducible rfl); try simp only [Go.Mv.clL])
  refine lad_j List.mem_cons_self fun g6 => ?_
  simp only [upd, reduceIte]
  refine lad_end fun xq w3 st3 hR => ?_
  try dsimp only
  clear hR xq
  refine plan_r rfl rfl ?_
  refine wp_storeS st3 2 rfl rfl rfl rfl (by simp [cw_len]) (by kernel_rfl) (cw_one _ _) ?_
  intro w4 st4
  repeat (first | simp only [List.cons_append] at st4 | simp only [List.nil_append] at st4 | simp only [List.set_cons_succ] at st4 | simp only [List.set_cons_zero] at st4)
  clear st3
  refine ⟨by first | exact st4 | exact St.less st4 (by simp), ?_⟩
  try simp only [Act.put]
  refine plan_m rfl rfl ?_
  go_simp
  try simp only [Go.Mv.clL]
  refine plan_end ?_
  refine NoPanic.normal ?_
  go_wp2_with fail
  refine wp_region_noPanic ?_
  refine wp_region_lad st4 9 [.t 0, .t 1, .w 2, .w 3, .w 4, .t 5, .w 8, .c 6, .w 7] (.m 9 (.w 10 .nil)) (by kernel_rfl) (by kernel_rfl) (fun _ _ _ _ _ h => h) ?_
  clear st4
  refine lad_arr rfl rfl rfl (fun _ => rfl) (cw 4 (elN m x)) (fun wx hS => St.rangeL hS 0 rfl 0 _ (by rw [List.drop_zero, List.take_of_length_le (Nat.le_refl _)])) Tryd.underlying47 rfl (by kernel_rfl) ?_
  try simp only [Go.Mv.clL]
  refine lad_arr rfl rfl rfl (fun _ => rfl) (cw 4 0) (fun wx hS => St.rangeL hS 2 rfl 0 _ (by rw [List.drop_zero, List.take_of_length_le (Nat.le_refl _)])) Tryd.underlying47 rfl (by kernel_rfl) ?_
  try simp only [Go.Mv.clL]
  iterate 3 (refine lad_w (v := ?_) rfl rfl (fun xq wx => ?_) ?_; rotate_left 1; · (go_simp; with_reducible rfl); try simp only [Go.Mv.clL])
  refine lad_t (v := ?_) rfl rfl (fun xq wx hS => ?_) ?_
  rotate_left 1
  · (have hc := (HCV.out.keep (St.fr hS) id).cell (i := 0) rfl; clear hS; go_simp; with_reducible rfl)
  try simp only [Go.Mv.clL]
  refine lad_w (v := ?_) rfl rfl (fun xq wx => ?_) ?_; rotate_left 1; · (go_simp; with_reducible rfl)
  try simp only [Go.Mv.clL]
  refine lad_call rfl rfl rfl Tryd.call33 (fun w hS hR => MOne_any m gp _ HOK.out (HPM.out.keep hS.fr id)) (fun _ => rfl) ?_
  try simp only [Go.Mv.clL]
  refine lad_w rfl rfl (fun _ => exec_build rfl _ (built_pt _ _ _)) ?_
  try simp only [Go.Mv.clL]
  refine lad_end fun xq w5 st5 hR => ?_
  try dsimp only
  clear hR xq
  refine plan_m rfl rfl ?_
  refine wp_storeS st5 1 rfl rfl rfl rfl (by simp [cw_len]) (by kernel_rfl) (pt_one _ _ _) ?_
  intro w6 st6
  try simp only [List.set_cons_zero, List.set_cons_succ] at st6
  clear st5
  try simp only [Act.put]
  refine plan_w (v := ?_) rfl rfl (fun wx => ?_) ?_; rotate_left 1; · (go_simp; with_reducible rfl)
  try simp only [Go.Mv.clL]
  refine plan_end ?_
  refine NoPanic.normal ?_
  have hr := st6.at 1 rfl
  have hfr := st6.fr
  clear st6
  go_wp2_with fail
  exact bodyPost_ret (results_st2 rfl rfl hr Tryd.underlying49 rfl (by kernel_rfl) rfl) rfl ⟨by unfold ptV ptL; rw [el_zero]; rfl, hfr⟩
end Go.Proofs.YtemcankmggmgoaaDoor

/- Primes, plainly: trial division, Fermat, Pocklington. -/
namespace Mvq
/-- a prime -/
def IsP (p : Nat) : Prop := 1 < p ∧ ∀ d, d ∣ p → d = 1 ∨ d = p
/-- none from lo on, 2^k of them, divides n -/
def chk (n : Nat) : Nat → Nat → Bool
  | 0, lo => n % lo != 0
  | k + 1, lo => chk n k lo && chk n k (lo + 2 ^ k)
theorem chk_sound (n : Nat) : ∀ (k lo : Nat), chk n k lo = true → ∀ d, lo ≤ d → d < lo + 2 ^ k → n % d ≠ 0
  | 0, lo, h, d, h1, h2 => by
    have : d = lo := by simp at h2; omega
    subst this; simpa [chk] using h
  | k + 1, lo, h, d, h1, h2 => by
    simp only [chk, Bool.and_eq_true] at h
    rw [Nat.pow_succ] at h2
    by_cases hd : d < lo + 2 ^ k
    · exact chk_sound n k lo h.1 d h1 hd
    · exact chk_sound n k _ h.2 d (by omega) (by omega)
theorem isP_trial (n k : Nat) (h1 : 1 < n) (hc : chk n k 2 = true) (hn : n < (2 + 2 ^ k) * (2 + 2 ^ k)) : IsP n := by
  refine ⟨h1, fun d hd => ?_⟩
  obtain ⟨e, he⟩ := hd
  have key : ∀ x, 2 ≤ x → x < 2 + 2 ^ k → ¬ x ∣ n := fun x a b hx => chk_sound n k 2 hc x a b (Nat.mod_eq_zero_of_dvd hx)
  by_cases d1 : d = 1
  · exact Or.inl d1
  by_cases e1 : e = 1
  · right; subst e1; omega
  have d0 : d ≠ 0 := by intro h; subst h; omega
  have e0 : e ≠ 0 := by intro h; subst h; omega
  exfalso
  by_cases hde : d < 2 + 2 ^ k
  · exact key d (by omega) hde ⟨e, he⟩
  · by_cases hee : e < 2 + 2 ^ k
    · exact key e (by omega) hee ⟨d, by rw [Nat.mul_comm]; exact he⟩
    · have : (2 + 2 ^ k) * (2 + 2 ^ k) ≤ d * e := Nat.mul_le_mul (by omega) (by omega)
      omega
theorem IsP.cop {p a : Nat} (hp : IsP p) (ha : ¬ p ∣ a) : Nat.Coprime p a := by
  rcases hp.2 (Nat.gcd p a) (Nat.gcd_dvd_left p a) with h | h
  · exact h
  · exact absurd (h ▸ Nat.gcd_dvd_right p a) ha
theorem IsP.euclid {p a b : Nat} (hp : IsP p) (h : p ∣ a * b) : p ∣ a ∨ p ∣ b := by
  by_cases ha : p ∣ a
  · exact Or.inl ha
  · exact Or.inr ((hp.cop ha).dvd_of_dvd_mul_left h)
/-- n choose k -/
def ch : Nat → Nat → Nat
  | _, 0 => 1
  | 0, _ + 1 => 0
  | n + 1, k + 1 => ch n k + ch n (k + 1)
theorem ch_zero (n : Nat) : ch n 0 = 1 := by cases n <;> rfl
theorem ch_big : ∀ (n k : Nat), n < k → ch n k = 0
  | 0, 0, h => by omega
  | 0, _ + 1, _ => rfl
  | n + 1, 0, h => by omega
  | n + 1, k + 1, h => by rw [ch, ch_big n k (by omega), ch_big n (k + 1) (by omega)]
theorem ch_self : ∀ n : Nat, ch n n = 1
  | 0 => rfl
  | n + 1 => by rw [ch, ch_self n, ch_big n (n + 1) (by omega)]
theorem ch_absorb : ∀ (n k : Nat), (k + 1) * ch (n + 1) (k + 1) = (n + 1) * ch n k
  | 0, 0 => rfl
  | 0, k + 1 => by rw [ch_big (0 + 1) (k + 1 + 1) (by omega), ch_big 0 (k + 1) (by omega)]; simp
  | n + 1, 0 => by
    have h := ch_absorb n 0
    have e : ch (n + 1 + 1) (0 + 1) = ch (n + 1) 0 + ch (n + 1) (0 + 1) := rfl
    rw [e, ch_zero]
    rw [ch_zero] at h
    omega
  | n + 1, k + 1 => by
    have h1 := ch_absorb n k
    have h2 := ch_absorb n (k + 1)
    have e : ch (n + 1 + 1) (k + 1 + 1) = ch (n + 1) (k + 1) + ch (n + 1) (k + 1 + 1) := rfl
    have e2 : ch (n + 1) (k + 1) = ch n k + ch n (k + 1) := rfl
    rw [e, Nat.mul_add]
    have h3 : (k + 1 + 1) * ch (n + 1) (k + 1) = (n + 1) * ch n k + ch (n + 1) (k + 1) := by rw [← h1, Nat.succ_mul]
    rw [h3, h2, Nat.succ_mul (n + 1)]
    have : (n + 1) * ch (n + 1) (k + 1) = (n + 1) * ch n k + (n + 1) * ch n (k + 1) := by rw [e2, Nat.mul_add]
    omega
def sumTo : Nat → (Nat → Nat) → Nat
  | 0, _ => 0
  | n + 1, f => sumTo n f + f n
theorem sumTo_shift (f : Nat → Nat) : ∀ n, sumTo (n + 1) f = f 0 + sumTo n (fun k => f (k + 1))
  | 0 => by simp [sumTo]
  | n + 1 => by rw [sumTo, sumTo_shift f n]; simp only [sumTo]; omega
theorem sumTo_add (f g : Nat → Nat) : ∀ n, sumTo n (fun k => f k + g k) = sumTo n f + sumTo n g
  | 0 => rfl
  | n + 1 => by simp only [sumTo]; rw [sumTo_add f g n]; omega
theorem sumTo_mul (f : Nat → Nat) (a : Nat) : ∀ n, sumTo n (fun k => f k * a) = sumTo n f * a
  | 0 => by simp [sumTo]
  | n + 1 => by simp only [sumTo]; rw [sumTo_mul f a n, Nat.add_mul]
theorem sumTo_congr (f g : Nat → Nat) : ∀ n, (∀ k, k < n → f k = g k) → sumTo n f = sumTo n g
  | 0, _ => rfl
  | n + 1, h => by simp only [sumTo]; rw [sumTo_congr f g n (fun k hk => h k (by omega)), h n (by omega)]
theorem sumTo_dvd (f : Nat → Nat) (p : Nat) : ∀ n, (∀ k, k < n → p ∣ f k) → p ∣ sumTo n f
  | 0, _ => ⟨0, rfl⟩
  | n + 1, h => Nat.dvd_add (sumTo_dvd f p n (fun k hk => h k (by omega))) (h n (by omega))
theorem binom (a : Nat) : ∀ n, (a + 1) ^ n = sumTo (n + 1) (fun k => ch n k * a ^ k)
  | 0 => by simp [sumTo, ch]
  | n + 1 => by
    rw [Nat.pow_succ, Nat.mul_add, Nat.mul_one, binom a n]
    rw [sumTo_shift (fun k => ch (n + 1) k * a ^ k) (n + 1)]
    have e : sumTo (n + 1) (fun k => ch (n + 1) (k + 1) * a ^ (k + 1)) = sumTo (n + 1) (fun k => ch n k * a ^ k * a) + sumTo (n + 1) (fun k => ch n (k + 1) * a ^ (k + 1)) := by
      rw [← sumTo_add]
      refine sumTo_congr _ _ _ fun k _ => ?_
      rw [show ch (n + 1) (k + 1) = ch n k + ch n (k + 1) from rfl, Nat.add_mul, Nat.pow_succ, Nat.mul_assoc]
    have e2 := sumTo_shift (fun k => ch n k * a ^ k) (n + 1)
    have e3 : sumTo (n + 1 + 1) (fun k => ch n k * a ^ k) = sumTo (n + 1) (fun k => ch n k * a ^ k) := by
      rw [sumTo, ch_big n (n + 1) (by omega), Nat.zero_mul, Nat.add_zero]
    rw [e, sumTo_mul]
    simp only [ch_zero, Nat.pow_zero] at e2 ⊢
    omega
theorem dvd_ch {p k : Nat} (hp : IsP p) (h0 : 0 < k) (hk : k < p) : p ∣ ch p k := by
  obtain ⟨q, rfl⟩ : ∃ q, p = q + 1 := ⟨p - 1, by have := hp.1; omega⟩
  obtain ⟨j, rfl⟩ : ∃ j, k = j + 1 := ⟨k - 1, by omega⟩
  have h := ch_absorb q j
  have hd : (q + 1) ∣ (j + 1) * ch (q + 1) (j + 1) := ⟨_, h⟩
  rcases hp.euclid hd with h1 | h1
  · exact absurd (Nat.le_of_dvd (by omega) h1) (by omega)
  · exact h1
theorem frob {p : Nat} (hp : IsP p) (a : Nat) : (a + 1) ^ p % p = (a ^ p + 1) % p := by
  obtain ⟨q, rfl⟩ : ∃ q, p = q + 1 := ⟨p - 1, by have := hp.1; omega⟩
  rw [binom, sumTo, ch_self, Nat.one_mul, sumTo_shift]
  obtain ⟨c, hc⟩ := sumTo_dvd (fun k => ch (q + 1) (k + 1) * a ^ (k + 1)) (q + 1) q (fun k hk => Nat.dvd_trans (dvd_ch hp (by omega) (by omega)) (Nat.dvd_mul_right _ _))
  rw [hc, ch_zero, Nat.pow_zero, Nat.one_mul]
  rw [show 1 + (q + 1) * c + a ^ (q + 1) = a ^ (q + 1) + 1 + (q + 1) * c by omega, Nat.add_mul_mod_self_left]
theorem fermat1 {p : Nat} (hp : IsP p) : ∀ a, a ^ p % p = a % p
  | 0 => by rw [Nat.zero_pow (by have := hp.1; omega)]
  | a + 1 => by rw [frob hp, Nat.add_mod, fermat1 hp a, ← Nat.add_mod]
theorem cancel {p a x y : Nat} (hp : IsP p) (ha : ¬ p ∣ a) (h : a * x % p = a * y % p) : x % p = y % p := by
  have key : ∀ x y, x ≤ y → a * x % p = a * y % p → x % p = y % p := by
    intro x y hxy h
    have hd : p ∣ a * (y - x) := by
      have := Nat.sub_mod_eq_zero_of_mod_eq h.symm
      rw [← Nat.mul_sub] at this
      exact Nat.dvd_of_mod_eq_zero this
    obtain ⟨c, hc⟩ := (hp.euclid hd).resolve_left ha
    rw [show y = x + p * c by omega, Nat.add_mul_mod_self_left]
  rcases Nat.le_total x y with h1 | h1
  · exact key x y h1 h
  · exact (key y x h1 h.symm).symm
theorem fermat {p a : Nat} (hp : IsP p) (ha : ¬ p ∣ a) : a ^ (p - 1) % p = 1 := by
  have h1 : 1 % p = 1 := Nat.mod_eq_of_lt hp.1
  have h2 : a ^ (p - 1) % p = 1 % p := by
    refine cancel hp ha ?_
    rw [Nat.mul_one, Nat.mul_comm, ← Nat.pow_succ, show (p - 1).succ = p by have := hp.1; omega]
    exact fermat1 hp a
  rw [h2, h1]
/-- a power modulo N -/
def pm (N : Nat) : Nat → Nat → Nat → Nat
  | 0, _, _ => 1 % N
  | k + 1, a, e => if e % 2 = 1 then pm N k (a * a % N) (e / 2) * a % N else pm N k (a * a % N) (e / 2)
theorem pm_ok (N : Nat) : ∀ k a e, e < 2 ^ k → pm N k a e = a ^ e % N
  | 0, a, e, h => by have : e = 0 := by simp at h; omega
                     subst this; rfl
  | k + 1, a, e, h => by
    have h2 : e / 2 < 2 ^ k := by rw [Nat.pow_succ] at h; omega
    have e1 : pm N k (a * a % N) (e / 2) = a ^ (2 * (e / 2)) % N := by
      rw [pm_ok N k _ _ h2, ← Nat.pow_mod, ← Nat.pow_two, ← Nat.pow_mul]
    rw [pm, e1]
    split
    · rename_i ho
      rw [Nat.mod_mul_mod, ← Nat.pow_succ]
      congr 2; omega
    · congr 2; omega
theorem pow_one_mod {N b : Nat} (k : Nat) (h : b % N = 1 % N) : b ^ k % N = 1 % N := by
  rw [Nat.pow_mod, h, ← Nat.pow_mod, Nat.one_pow]
theorem pow_gcd {N b : Nat} (m n : Nat) (hm : b ^ m % N = 1 % N) (hn : b ^ n % N = 1 % N) : b ^ Nat.gcd m n % N = 1 % N := by
  induction m, n using Nat.gcd.induction with
  | H0 n => rw [Nat.gcd_zero_left]; exact hn
  | H1 m n h ih =>
    rw [Nat.gcd_rec]
    refine ih ?_ hm
    have e : b ^ n = b ^ (n % m) * (b ^ m) ^ (n / m) := by
      rw [← Nat.pow_mul, ← Nat.pow_add]; congr 1; have := Nat.mod_add_div n m; omega
    rw [e, Nat.mul_mod, pow_one_mod (n / m) hm, ← Nat.mul_mod, Nat.mul_one] at hn
    exact hn
/-- a prime r of N - 1 divides d - 1, for each prime d of N -/
theorem pock1 {N r a d : Nat} (hr : IsP r) (hd : IsP d) (hdN : d ∣ N) (hN : 1 < N) (hrN : (N - 1) % r = 0)
    (h1 : a ^ (N - 1) % N = 1) (h2 : Nat.gcd (a ^ ((N - 1) / r) % N + (N - 1)) N = 1) : r ∣ d - 1 := by
  refine Classical.byContradiction fun hn => ?_
  have hm1 : ∀ x, x % N = 1 → x % d = 1 % d := fun x hx => by
    obtain ⟨c, hc⟩ := hdN
    have h3 : x % N % d = x % d := Nat.mod_mod_of_dvd x ⟨c, hc⟩
    rw [← h3, hx]
  have hd0 : ¬ d ∣ a := by
    intro h
    have h3 := hm1 _ h1
    have hpw : a ∣ a ^ (N - 1) := by
      obtain ⟨k, hk⟩ : ∃ k, N - 1 = k + 1 := ⟨N - 2, by omega⟩
      rw [hk, Nat.pow_succ]; exact Nat.dvd_mul_left _ _
    have h4 : a ^ (N - 1) % d = 0 := Nat.mod_eq_zero_of_dvd (Nat.dvd_trans h hpw)
    rw [h4, Nat.mod_eq_of_lt hd.1] at h3
    omega
  have e1 : (a ^ ((N - 1) / r)) ^ r % d = 1 % d := by
    rw [← Nat.pow_mul, Nat.div_mul_cancel (Nat.dvd_of_mod_eq_zero hrN)]
    exact hm1 _ h1
  have e2 : (a ^ ((N - 1) / r)) ^ (d - 1) % d = 1 % d := by
    rw [← Nat.pow_mul, Nat.mul_comm, Nat.pow_mul]
    exact pow_one_mod _ (by rw [fermat hd hd0, Nat.mod_eq_of_lt hd.1])
  have e3 := pow_gcd _ _ e1 e2
  rw [show Nat.gcd r (d - 1) = 1 from hr.cop hn, Nat.pow_one] at e3
  have e4 : d ∣ a ^ ((N - 1) / r) % N + (N - 1) := by
    refine Nat.dvd_of_mod_eq_zero ?_
    have e5 : (a ^ ((N - 1) / r) % N) % d = 1 % d := by rw [Nat.mod_mod_of_dvd _ hdN]; exact e3
    rw [Nat.add_mod, e5, ← Nat.add_mod, show 1 + (N - 1) = N by omega]
    exact Nat.mod_eq_zero_of_dvd hdN
  have e6 : d ∣ 1 := by rw [← h2]; exact Nat.dvd_gcd e4 hdN
  have := Nat.le_of_dvd (by omega) e6
  have := hd.1
  omega
theorem exists_prime : ∀ (n : Nat), 1 < n → ∃ d, IsP d ∧ d ∣ n := by
  intro n
  induction n using Nat.strongRecOn with
  | _ n ih =>
    intro h
    by_cases hp : IsP n
    · exact ⟨n, hp, Nat.dvd_refl n⟩
    · have : ∃ d, d ∣ n ∧ d ≠ 1 ∧ d ≠ n := by
        refine Classical.byContradiction fun hn => hp ⟨h, fun d hd => ?_⟩
        by_cases d1 : d = 1
        · exact Or.inl d1
        · exact Or.inr (Classical.byContradiction fun d2 => hn ⟨d, hd, d1, d2⟩)
      obtain ⟨d, hd, d1, d2⟩ := this
      have hle := Nat.le_of_dvd (by omega) hd
      have d0 : d ≠ 0 := by intro h0; subst h0; have := Nat.eq_zero_of_zero_dvd hd; omega
      obtain ⟨e, he, hed⟩ := ih d (by omega) (by omega)
      exact ⟨e, he, Nat.dvd_trans hed hd⟩
/-- the smallest prime that divides is small, of a number that is none -/
theorem small_prime {N : Nat} (h : 1 < N) (hn : ¬ IsP N) : ∃ d, IsP d ∧ d ∣ N ∧ d * d ≤ N := by
  have : ∃ d, d ∣ N ∧ d ≠ 1 ∧ d ≠ N := by
    refine Classical.byContradiction fun hx => hn ⟨h, fun d hd => ?_⟩
    by_cases d1 : d = 1
    · exact Or.inl d1
    · exact Or.inr (Classical.byContradiction fun d2 => hx ⟨d, hd, d1, d2⟩)
  obtain ⟨d, ⟨e, he⟩, d1, d2⟩ := this
  have d0 : d ≠ 0 := by intro h0; subst h0; omega
  have e0 : e ≠ 0 := by intro h0; subst h0; omega
  have e1 : e ≠ 1 := by intro h0; subst h0; omega
  rcases Nat.le_total d e with hde | hde
  · obtain ⟨f, hf, hfd⟩ := exists_prime d (by omega)
    refine ⟨f, hf, Nat.dvd_trans hfd ⟨e, he⟩, ?_⟩
    have hle := Nat.le_of_dvd (by omega) hfd
    rw [he]
    exact Nat.mul_le_mul hle (by omega)
  · obtain ⟨f, hf, hfd⟩ := exists_prime e (by omega)
    refine ⟨f, hf, Nat.dvd_trans hfd ⟨d, by rw [Nat.mul_comm]; exact he⟩, ?_⟩
    have hle := Nat.le_of_dvd (by omega) hfd
    rw [he]
    exact Nat.mul_le_mul (by omega) hle
/-- one step of a certificate, decided -/
def stepB (N k r a : Nat) : Bool := (N - 1) % r == 0 && pm N k a (N - 1) == 1 && Nat.gcd (pm N k a ((N - 1) / r) + (N - 1)) N == 1
theorem stepB_ok {N k r a : Nat} (h1 : 1 < N) (hk : N < 2 ^ k) (h : stepB N k r a = true) : (N - 1) % r = 0 ∧ a ^ (N - 1) % N = 1 ∧ Nat.gcd (a ^ ((N - 1) / r) % N + (N - 1)) N = 1 := by
  simp only [stepB, Bool.and_eq_true, beq_iff_eq] at h
  rw [pm_ok N k a (N - 1) (by omega), pm_ok N k a ((N - 1) / r) (by have := Nat.div_le_self (N - 1) r; omega)] at h
  exact ⟨h.1.1, h.1.2, h.2⟩
def prodL : List Nat → Nat
  | [] => 1
  | r :: l => r * prodL l
theorem dvd_prodL {x : Nat} : ∀ (l : List Nat), (∀ r, r ∈ l → IsP r) → l.Nodup → (∀ r, r ∈ l → r ∣ x) → prodL l ∣ x
  | [], _, _, _ => Nat.one_dvd _
  | r :: l, hp, hn, hd => by
    rw [List.nodup_cons] at hn
    have ih := dvd_prodL l (fun r hr => hp r (by simp [hr])) hn.2 (fun r hr => hd r (by simp [hr]))
    have hr := hp r (by simp)
    have hc : Nat.Coprime r (prodL l) := by
      refine hr.cop fun hx => ?_
      have : ∀ (l : List Nat), (∀ q, q ∈ l → IsP q) → r ∣ prodL l → r ∈ l := by
        intro l
        induction l with
        | nil => intro _ h; have := Nat.le_of_dvd (by decide) h; have := hr.1; simp [prodL] at *; omega
        | cons q l ih2 =>
          intro hq h
          rcases hr.euclid h with h1 | h1
          · rcases (hq q (by simp)).2 r h1 with h2 | h2
            · have := hr.1; omega
            · simp [h2]
          · simp [ih2 (fun q hq' => hq q (by simp [hq'])) h1]
      exact hn.1 (this l (fun r hr => hp r (by simp [hr])) hx)
    exact hc.mul_dvd_of_dvd_of_dvd (hd r (by simp)) ih
/-- Pocklington -/
theorem isP_pock (N k : Nat) (l : List (Nat × Nat)) (h1 : 1 < N) (hk : N < 2 ^ k) (hp : ∀ x, x ∈ l → IsP x.1) (hn : (l.map (·.1)).Nodup)
    (hs : l.all (fun x => stepB N k x.1 x.2) = true) (hbig : N < prodL (l.map (·.1)) * prodL (l.map (·.1))) : IsP N := by
  refine Classical.byContradiction fun hno => ?_
  obtain ⟨d, hd, hdN, hdd⟩ := small_prime h1 hno
  have hx : prodL (l.map (·.1)) ∣ d - 1 := by
    refine dvd_prodL _ (fun r hr => ?_) hn (fun r hr => ?_)
    · obtain ⟨x, hx, rfl⟩ := List.mem_map.1 hr; exact hp x hx
    · obtain ⟨x, hx, rfl⟩ := List.mem_map.1 hr
      have hst := stepB_ok h1 hk (List.all_eq_true.1 hs x hx)
      exact pock1 (hp x hx) hd hdN h1 hst.1 hst.2.1 hst.2.2
  have hle := Nat.le_of_dvd (by have := hd.1; omega) hx
  have : prodL (l.map (·.1)) * prodL (l.map (·.1)) ≤ d * d := Nat.mul_le_mul (by omega) (by omega)
  omega
end Mvq

/- The two primes are primes: certificates. -/
namespace Mvq
theorem isP_p107590001 : IsP 107590001 := isP_trial 107590001 14 (by decide) (by decide +kernel) (by decide)
theorem isP_p7240687 : IsP 7240687 := isP_trial 7240687 12 (by decide) (by decide +kernel) (by decide)
theorem isP_p96557 : IsP 96557 := isP_trial 96557 9 (by decide) (by decide +kernel) (by decide)
theorem isP_p255515944373312847190720520512484175977 : IsP 255515944373312847190720520512484175977 := by
  refine isP_pock 255515944373312847190720520512484175977 128 [(107590001, 2), (7240687, 2), (96557, 2)] (by decide) (by decide) (fun x hx => ?_) (by decide) (by decide +kernel) (by decide +kernel)
  simp only [List.mem_cons, List.not_mem_nil, or_false] at hx
  rcases hx with rfl | rfl | rfl
  · exact isP_p107590001
  · exact isP_p7240687
  · exact isP_p96557
theorem isP_p205115282021455665897114700593932402728804164701536103180137503955397371 : IsP 205115282021455665897114700593932402728804164701536103180137503955397371 := by
  refine isP_pock 205115282021455665897114700593932402728804164701536103180137503955397371 237 [(255515944373312847190720520512484175977, 2)] (by decide) (by decide) (fun x hx => ?_) (by decide) (by decide +kernel) (by decide +kernel)
  simp only [List.mem_cons, List.not_mem_nil, or_false] at hx
  subst hx
  · exact isP_p255515944373312847190720520512484175977
theorem isP_pP : IsP 115792089237316195423570985008687907853269984665640564039457584007908834671663 := by
  refine isP_pock 115792089237316195423570985008687907853269984665640564039457584007908834671663 256 [(205115282021455665897114700593932402728804164701536103180137503955397371, 2)] (by decide) (by decide) (fun x hx => ?_) (by decide) (by decide +kernel) (by decide +kernel)
  simp only [List.mem_cons, List.not_mem_nil, or_false] at hx
  subst hx
  · exact isP_p205115282021455665897114700593932402728804164701536103180137503955397371
end Mvq

/- Polynomials in three coordinates, and in the roots over them, reckoned with: how the sum of three points is shown not to hang on brackets. -/
namespace Mvq
/-- the prime of the points -/
abbrev fP : Nat := 115792089237316195423570985008687907853269984665640564039457584007908834671663
instance : NeZero fP := ⟨by decide⟩
abbrev K := Fin fP
def kc (n : Nat) : K := Fin.ofNat fP n
theorem kc_add (a b : Nat) : kc ((a + b) % fP) = kc a + kc b := by
  apply Fin.ext; simp [kc, Fin.ofNat, Fin.val_add]
theorem kc_mul (a b : Nat) : kc (a * b % fP) = kc a * kc b := by
  apply Fin.ext; simp [kc, Fin.ofNat, Fin.val_mul]
abbrev Pl := List (Nat × Nat)
/-- the value of a monomial -/
def mo (x1 x2 x3 : K) (k : Nat) : K := x1 ^ (k % 1048576) * x2 ^ (k / 1048576 % 1048576) * x3 ^ (k / 1048576 / 1048576)
def small (d k : Nat) : Prop := k % 1048576 ≤ d ∧ k / 1048576 % 1048576 ≤ d ∧ k / 1048576 / 1048576 ≤ d
theorem pw_add (x : K) (a b : Nat) : x ^ (a + b) = x ^ a * x ^ b := by
  induction b with
  | zero => simp only [Nat.add_zero]; grind -lia -linarith
  | succ b ih => rw [← Nat.add_assoc]; grind -lia -linarith
theorem mo_add {d e k l : Nat} (hk : small d k) (hl : small e l) (h : d + e < 1048576) (x1 x2 x3 : K) : mo x1 x2 x3 (k + l) = mo x1 x2 x3 k * mo x1 x2 x3 l ∧ small (d + e) (k + l) := by
  obtain ⟨k1, k2, k3⟩ := hk
  obtain ⟨l1, l2, l3⟩ := hl
  have e1 : (k + l) % 1048576 = k % 1048576 + l % 1048576 := by omega
  have e2 : (k + l) / 1048576 = k / 1048576 + l / 1048576 := by omega
  have e3 : (k / 1048576 + l / 1048576) % 1048576 = k / 1048576 % 1048576 + l / 1048576 % 1048576 := by omega
  have e4 : (k / 1048576 + l / 1048576) / 1048576 = k / 1048576 / 1048576 + l / 1048576 / 1048576 := by omega
  constructor
  · unfold mo
    rw [e1, e2, e3, e4]
    generalize k % 1048576 = a1; generalize l % 1048576 = b1; generalize k / 1048576 % 1048576 = a2; generalize l / 1048576 % 1048576 = b2; generalize k / 1048576 / 1048576 = a3; generalize l / 1048576 / 1048576 = b3
    rw [pw_add, pw_add, pw_add]
    generalize x1 ^ a1 = u1; generalize x1 ^ b1 = v1; generalize x2 ^ a2 = u2; generalize x2 ^ b2 = v2; generalize x3 ^ a3 = u3; generalize x3 ^ b3 = v3
    grind -lia -linarith
  · unfold small
    rw [e1, e2, e3, e4]; omega
def plv (x1 x2 x3 : K) : Pl → K
  | [] => 0
  | (k, c) :: l => kc c * mo x1 x2 x3 k + plv x1 x2 x3 l
def PBd (d : Nat) (a : Pl) : Prop := ∀ t ∈ a, small d t.1
/-- two sorted lists, merged -/
def plAdd : Nat → Pl → Pl → Pl
  | 0, a, b => a ++ b
  | _ + 1, [], b => b
  | _ + 1, a, [] => a
  | n + 1, (k, c) :: a, (l, d) :: b => match Nat.blt k l with
    | true => (k, c) :: plAdd n a ((l, d) :: b)
    | false => match Nat.blt l k with
      | true => (l, d) :: plAdd n ((k, c) :: a) b
      | false => (k, (c + d) % fP) :: plAdd n a b
theorem plv_app (x1 x2 x3 : K) (a b : Pl) : plv x1 x2 x3 (a ++ b) = plv x1 x2 x3 a + plv x1 x2 x3 b := by
  induction a with
  | nil => simp only [List.nil_append, plv]; grind -lia -linarith
  | cons t a ih =>
    obtain ⟨k, c⟩ := t
    simp only [List.cons_append, plv, ih]; grind -lia -linarith
theorem plAdd_ok (x1 x2 x3 : K) : ∀ (n : Nat) (a b : Pl), plv x1 x2 x3 (plAdd n a b) = plv x1 x2 x3 a + plv x1 x2 x3 b
  | 0, a, b => plv_app x1 x2 x3 a b
  | n + 1, [], b => by simp only [plAdd, plv]; grind -lia -linarith
  | n + 1, t :: a, [] => by simp only [plAdd, plv]; grind -lia -linarith
  | n + 1, (k, c) :: a, (l, d) :: b => by
    have h1 := plAdd_ok x1 x2 x3 n a ((l, d) :: b)
    have h2 := plAdd_ok x1 x2 x3 n ((k, c) :: a) b
    have h3 := plAdd_ok x1 x2 x3 n a b
    simp only [plAdd]
    split
    · simp only [plv] at *; grind -lia -linarith
    · rename_i e1
      split
      · simp only [plv] at *; grind -lia -linarith
      · rename_i e2
        have hkl : k = l := by
          have : ¬ k < l := fun h => by rw [← Nat.blt_eq, e1] at h; cases h
          have : ¬ l < k := fun h => by rw [← Nat.blt_eq, e2] at h; cases h
          omega
        subst hkl
        simp only [plv, kc_add, h3]
        generalize mo x1 x2 x3 k = m
        generalize kc c = u
        generalize kc d = v
        grind -lia -linarith
theorem plAdd_bd (d : Nat) : ∀ (n : Nat) (a b : Pl), PBd d a → PBd d b → PBd d (plAdd n a b)
  | 0, a, b, ha, hb => fun t ht => by
    rcases List.mem_append.1 ht with h | h
    · exact ha t h
    · exact hb t h
  | n + 1, [], b, _, hb => by simpa only [plAdd] using hb
  | n + 1, t :: a, [], ha, _ => by simpa only [plAdd] using ha
  | n + 1, (k, c) :: a, (l, e) :: b, ha, hb => by
    have ha' : PBd d a := fun t ht => ha t (List.mem_cons_of_mem _ ht)
    have hb' : PBd d b := fun t ht => hb t (List.mem_cons_of_mem _ ht)
    simp only [plAdd]
    split
    · intro t ht
      rcases List.mem_cons.1 ht with h | h
      · subst h; exact ha (k, c) (by simp)
      · exact plAdd_bd d n a _ ha' hb t h
    · split
      · intro t ht
        rcases List.mem_cons.1 ht with h | h
        · subst h; exact hb (l, e) (by simp)
        · exact plAdd_bd d n _ b ha hb' t h
      · intro t ht
        rcases List.mem_cons.1 ht with h | h
        · subst h; exact ha (k, c) (by simp)
        · exact plAdd_bd d n a b ha' hb' t h
def plTerm (k c : Nat) : Pl → Pl
  | [] => []
  | (l, d) :: b => (k + l, c * d % fP) :: plTerm k c b
theorem plTerm_ok (x1 x2 x3 : K) {d e k : Nat} (c : Nat) (hk : small d k) (h : d + e < 1048576) : ∀ (b : Pl), PBd e b → plv x1 x2 x3 (plTerm k c b) = kc c * mo x1 x2 x3 k * plv x1 x2 x3 b ∧ PBd (d + e) (plTerm k c b)
  | [], _ => by
    refine ⟨?_, fun t ht => absurd ht (by simp [plTerm])⟩
    simp only [plTerm, plv]; grind -lia -linarith
  | (l, f) :: b, hb => by
    have ih := plTerm_ok x1 x2 x3 c hk h b (fun t ht => hb t (List.mem_cons_of_mem _ ht))
    have hm := mo_add hk (hb (l, f) (by simp)) h x1 x2 x3
    refine ⟨?_, fun t ht => ?_⟩
    · simp only [plTerm, plv, kc_mul, ih.1, hm.1]
      generalize mo x1 x2 x3 k = m; generalize mo x1 x2 x3 l = m2; generalize kc c = u; generalize kc f = v; generalize plv x1 x2 x3 b = q
      grind -lia -linarith
    · simp only [plTerm] at ht
      rcases List.mem_cons.1 ht with h1 | h1
      · subst h1; exact hm.2
      · exact ih.2 t h1
def plMul : Pl → Pl → Pl
  | [], _ => []
  | (k, c) :: a, b => plAdd 100000 (plTerm k c b) (plMul a b)
theorem plMul_ok (x1 x2 x3 : K) {d e : Nat} (h : d + e < 1048576) : ∀ (a b : Pl), PBd d a → PBd e b → plv x1 x2 x3 (plMul a b) = plv x1 x2 x3 a * plv x1 x2 x3 b ∧ PBd (d + e) (plMul a b)
  | [], b, _, _ => by
    refine ⟨?_, fun t ht => absurd ht (by simp [plMul])⟩
    simp only [plMul, plv]; grind -lia -linarith
  | (k, c) :: a, b, ha, hb => by
    have ih := plMul_ok x1 x2 x3 h a b (fun t ht => ha t (List.mem_cons_of_mem _ ht)) hb
    have ht := plTerm_ok x1 x2 x3 c (ha (k, c) (by simp)) h b hb
    refine ⟨?_, plAdd_bd _ _ _ _ ht.2 ih.2⟩
    simp only [plMul, plAdd_ok, plv, ht.1, ih.1]
    grind -lia -linarith
theorem PBd.mono {d e : Nat} {a : Pl} (h : PBd d a) (hd : d ≤ e) : PBd e a := fun t ht => by
  obtain ⟨h1, h2, h3⟩ := h t ht
  exact ⟨by omega, by omega, by omega⟩
/-- what is reckoned with -/
structure Ops (α : Type) where
  add : α → α → α
  mul : α → α → α
structure Snd {α : Type} (o : Ops α) (val : α → K) (Bd : Nat → α → Prop) (c : Nat) : Prop where
  add : ∀ a b, val (o.add a b) = val a + val b
  addB : ∀ d a b, Bd d a → Bd d b → Bd d (o.add a b)
  mul : ∀ d e a b, Bd d a → Bd e b → d + e + c < 1048576 → val (o.mul a b) = val a * val b ∧ Bd (d + e + c) (o.mul a b)
  mono : ∀ d e a, Bd d a → d ≤ e → Bd e a
def plOps : Ops Pl := ⟨plAdd 100000, plMul⟩
theorem plSnd (x1 x2 x3 : K) : Snd plOps (plv x1 x2 x3) PBd 0 :=
  ⟨fun a b => plAdd_ok x1 x2 x3 _ a b, fun d a b ha hb => plAdd_bd d _ a b ha hb, fun d e a b ha hb h => plMul_ok x1 x2 x3 (d := d) (e := e) h a b ha hb, fun _ _ _ h hd => h.mono hd⟩
def prOps {α : Type} (o : Ops α) (f : α) : Ops (α × α) :=
  ⟨fun p q => (o.add p.1 q.1, o.add p.2 q.2), fun p q => (o.add (o.mul p.1 q.1) (o.mul (o.mul p.2 q.2) f), o.add (o.mul p.1 q.2) (o.mul p.2 q.1))⟩
def prVal {α : Type} (val : α → K) (y : K) (p : α × α) : K := val p.1 + val p.2 * y
def prBd {α : Type} (Bd : Nat → α → Prop) (d : Nat) (p : α × α) : Prop := Bd d p.1 ∧ Bd d p.2
theorem prSnd {α : Type} {o : Ops α} {val : α → K} {Bd : Nat → α → Prop} {c : Nat} (h : Snd o val Bd c) (f : α) (y : K) (hy : y * y = val f) (hf : Bd 3 f) : Snd (prOps o f) (prVal val y) (prBd Bd) (c + c + 3) := by
  refine ⟨fun a b => ?_, fun d a b ha hb => ⟨h.addB _ _ _ ha.1 hb.1, h.addB _ _ _ ha.2 hb.2⟩, fun d e a b ha hb hd => ?_, fun d e a ha hd => ⟨h.mono _ _ _ ha.1 hd, h.mono _ _ _ ha.2 hd⟩⟩
  · simp only [prVal, prOps, h.add]; grind -lia -linarith
  · have m11 := h.mul d e a.1 b.1 ha.1 hb.1 (by omega)
    have m22 := h.mul d e a.2 b.2 ha.2 hb.2 (by omega)
    have m12 := h.mul d e a.1 b.2 ha.1 hb.2 (by omega)
    have m21 := h.mul d e a.2 b.1 ha.2 hb.1 (by omega)
    have mf := h.mul _ 3 _ f m22.2 hf (by omega)
    refine ⟨?_, h.addB _ _ _ (h.mono _ _ _ m11.2 (by omega)) (h.mono _ _ _ mf.2 (by omega)), h.addB _ _ _ (h.mono _ _ _ m12.2 (by omega)) (h.mono _ _ _ m21.2 (by omega))⟩
    simp only [prVal, prOps, h.add, m11.1, m12.1, m21.1, mf.1, m22.1, ← hy]
    grind -lia -linarith
end Mvq

/- The complete sum of points, over polynomials. -/
namespace Mvq
/-- y * y of a point, of each of three -/
def fPl (i : Nat) : Pl := [(0, 7), (3 * i, 1)]
abbrev T3 := ((Pl × Pl) × (Pl × Pl)) × ((Pl × Pl) × (Pl × Pl))
def o1 : Ops (Pl × Pl) := prOps plOps (fPl 1)
def o2 : Ops ((Pl × Pl) × (Pl × Pl)) := prOps o1 (fPl 1048576, [])
def o3 : Ops T3 := prOps o2 ((fPl 1099511627776, []), ([], []))
def v3 (x1 x2 x3 y1 y2 y3 : K) : T3 → K := prVal (prVal (prVal (plv x1 x2 x3) y1) y2) y3
def b3 : Nat → T3 → Prop := prBd (prBd (prBd PBd))
theorem pBd_of (d : Nat) (a : Pl) (h : (a.all fun t => decide (t.1 % 1048576 ≤ d) && decide (t.1 / 1048576 % 1048576 ≤ d) && decide (t.1 / 1048576 / 1048576 ≤ d)) = true) : PBd d a := fun t ht => by
  have h1 := List.all_eq_true.1 h t ht
  simp only [Bool.and_eq_true, decide_eq_true_eq] at h1
  exact ⟨h1.1.1, h1.1.2, h1.2⟩
theorem kc7 : kc 7 = 7 := by decide
theorem kc1 : kc 1 = 1 := by decide
theorem snd3 (x1 x2 x3 y1 y2 y3 : K) (h1 : y1 * y1 = x1 * x1 * x1 + 7) (h2 : y2 * y2 = x2 * x2 * x2 + 7) (h3 : y3 * y3 = x3 * x3 * x3 + 7) : Snd o3 (v3 x1 x2 x3 y1 y2 y3) b3 21 := by
  have s1 : Snd o1 (prVal (plv x1 x2 x3) y1) (prBd PBd) 3 := prSnd (plSnd x1 x2 x3) _ y1 (by
    simp only [fPl, plv, mo, kc7, kc1]
    grind -lia -linarith) (pBd_of _ _ (by decide))
  have s2 : Snd o2 (prVal (prVal (plv x1 x2 x3) y1) y2) (prBd (prBd PBd)) 9 := prSnd s1 _ y2 (by
    simp only [fPl, prVal, plv, mo, kc7, kc1]
    grind -lia -linarith) ⟨pBd_of _ _ (by decide), pBd_of _ _ (by decide)⟩
  exact prSnd s2 _ y3 (by
    simp only [fPl, prVal, plv, mo, kc7, kc1]
    grind -lia -linarith) ⟨⟨pBd_of _ _ (by decide), pBd_of _ _ (by decide)⟩, ⟨pBd_of _ _ (by decide), pBd_of _ _ (by decide)⟩⟩
/-- a value that is written so -/
structure Rp (V : T3 → K) (d : Nat) (a : T3) (u : K) : Prop where
  val : V a = u
  bd : b3 d a
section
variable {V : T3 → K} (S : Snd o3 V b3 21)
include S
theorem Rp.add {d e : Nat} {a b : T3} {u v : K} (ha : Rp V d a u) (hb : Rp V e b v) : Rp V (d + e) (o3.add a b) (u + v) :=
  ⟨by rw [S.add, ha.val, hb.val], S.addB _ _ _ (S.mono _ _ _ ha.bd (by omega)) (S.mono _ _ _ hb.bd (by omega))⟩
theorem Rp.mul {d e : Nat} {a b : T3} {u v : K} (ha : Rp V d a u) (hb : Rp V e b v) (h : d + e + 21 < 1048576) : Rp V (d + e + 21) (o3.mul a b) (u * v) := by
  have := S.mul d e a b ha.bd hb.bd h
  exact ⟨by rw [this.1, ha.val, hb.val], this.2⟩
end
def tc (n : Nat) : T3 := ((([(0, n)], []), ([], [])), (([], []), ([], [])))
/-- the sum's coordinates -/
def cX (X1 Y1 Z1 X2 Y2 Z2 : K) : K := (X1*Y2 + X2*Y1)*(Y1*Y2 + kc (fP - 21)*(Z1*Z2)) + kc (fP - 21)*((Y1*Z2 + Y2*Z1)*(X1*Z2 + X2*Z1))
def cY (X1 Y1 Z1 X2 Y2 Z2 : K) : K := (Y1*Y2 + kc 21*(Z1*Z2))*(Y1*Y2 + kc (fP - 21)*(Z1*Z2)) + kc 63*((X1*X2)*(X1*Z2 + X2*Z1))
def cZ (X1 Y1 Z1 X2 Y2 Z2 : K) : K := (Y1*Z2 + Y2*Z1)*(Y1*Y2 + kc 21*(Z1*Z2)) + kc 3*((X1*X2)*(X1*Y2 + X2*Y1))
def tX (X1 Y1 Z1 X2 Y2 Z2 : T3) : T3 := o3.add (o3.mul (o3.add (o3.mul X1 Y2) (o3.mul X2 Y1)) (o3.add (o3.mul Y1 Y2) (o3.mul (tc (fP - 21)) (o3.mul Z1 Z2)))) (o3.mul (tc (fP - 21)) (o3.mul (o3.add (o3.mul Y1 Z2) (o3.mul Y2 Z1)) (o3.add (o3.mul X1 Z2) (o3.mul X2 Z1))))
def tY (X1 Y1 Z1 X2 Y2 Z2 : T3) : T3 := o3.add (o3.mul (o3.add (o3.mul Y1 Y2) (o3.mul (tc 21) (o3.mul Z1 Z2))) (o3.add (o3.mul Y1 Y2) (o3.mul (tc (fP - 21)) (o3.mul Z1 Z2)))) (o3.mul (tc 63) (o3.mul (o3.mul X1 X2) (o3.add (o3.mul X1 Z2) (o3.mul X2 Z1))))
def tZ (X1 Y1 Z1 X2 Y2 Z2 : T3) : T3 := o3.add (o3.mul (o3.add (o3.mul Y1 Z2) (o3.mul Y2 Z1)) (o3.add (o3.mul Y1 Y2) (o3.mul (tc 21) (o3.mul Z1 Z2)))) (o3.mul (tc 3) (o3.mul (o3.mul X1 X2) (o3.add (o3.mul X1 Y2) (o3.mul X2 Y1))))
section
variable {V : T3 → K} (S : Snd o3 V b3 21) (hc : ∀ n, Rp V 0 (tc n) (kc n))
include S hc
omit hc in
theorem Rp.mono {d e : Nat} {a : T3} {u : K} (ha : Rp V d a u) (h : d ≤ e) : Rp V e a u := ⟨ha.val, S.mono _ _ _ ha.bd h⟩
theorem t_ok {d e : Nat} {A1 B1 C1 A2 B2 C2 : T3} {X1 Y1 Z1 X2 Y2 Z2 : K} (hA1 : Rp V d A1 X1) (hB1 : Rp V d B1 Y1) (hC1 : Rp V d C1 Z1) (hA2 : Rp V e A2 X2) (hB2 : Rp V e B2 Y2) (hC2 : Rp V e C2 Z2) (h : d + e < 10000) :
    Rp V (8 * (d + e) + 300) (tX A1 B1 C1 A2 B2 C2) (cX X1 Y1 Z1 X2 Y2 Z2) ∧ Rp V (8 * (d + e) + 300) (tY A1 B1 C1 A2 B2 C2) (cY X1 Y1 Z1 X2 Y2 Z2) ∧ Rp V (8 * (d + e) + 300) (tZ A1 B1 C1 A2 B2 C2) (cZ X1 Y1 Z1 X2 Y2 Z2) := by
  have m1 := Rp.add S (Rp.mul S hA1 hB2 (by omega)) (Rp.mul S hA2 hB1 (by omega))
  have m2 := Rp.add S (Rp.mul S hB1 hB2 (by omega)) (Rp.mul S (hc (fP - 21)) (Rp.mul S hC1 hC2 (by omega)) (by omega))
  have m6 := Rp.add S (Rp.mul S hB1 hB2 (by omega)) (Rp.mul S (hc 21) (Rp.mul S hC1 hC2 (by omega)) (by omega))
  have m3 := Rp.add S (Rp.mul S hB1 hC2 (by omega)) (Rp.mul S hB2 hC1 (by omega))
  have m4 := Rp.add S (Rp.mul S hA1 hC2 (by omega)) (Rp.mul S hA2 hC1 (by omega))
  have m7 := Rp.mul S hA1 hA2 (by omega)
  have m5 := Rp.add S (Rp.mul S m1 m2 (by omega)) (Rp.mul S (hc (fP - 21)) (Rp.mul S m3 m4 (by omega)) (by omega))
  have m8 := Rp.add S (Rp.mul S m6 m2 (by omega)) (Rp.mul S (hc 63) (Rp.mul S m7 m4 (by omega)) (by omega))
  have m9 := Rp.add S (Rp.mul S m3 m6 (by omega)) (Rp.mul S (hc 3) (Rp.mul S m7 m1 (by omega)) (by omega))
  exact ⟨m5.mono S (by omega), m8.mono S (by omega), m9.mono S (by omega)⟩
end
def e0 : Pl × Pl := ([], [])
def e1 : (Pl × Pl) × (Pl × Pl) := (e0, e0)
def tx1 : T3 := ((([(1, 1)], []), e0), e1)
def tx2 : T3 := ((([(1048576, 1)], []), e0), e1)
def tx3 : T3 := ((([(1099511627776, 1)], []), e0), e1)
def ty1 : T3 := ((([], [(0, 1)]), e0), e1)
def ty2 : T3 := ((e0, ([(0, 1)], [])), e1)
def ty3 : T3 := (e1, (([(0, 1)], []), e0))
def lX : T3 := tX (tX tx1 ty1 (tc 1) tx2 ty2 (tc 1)) (tY tx1 ty1 (tc 1) tx2 ty2 (tc 1)) (tZ tx1 ty1 (tc 1) tx2 ty2 (tc 1)) tx3 ty3 (tc 1)
def lY : T3 := tY (tX tx1 ty1 (tc 1) tx2 ty2 (tc 1)) (tY tx1 ty1 (tc 1) tx2 ty2 (tc 1)) (tZ tx1 ty1 (tc 1) tx2 ty2 (tc 1)) tx3 ty3 (tc 1)
def lZ : T3 := tZ (tX tx1 ty1 (tc 1) tx2 ty2 (tc 1)) (tY tx1 ty1 (tc 1) tx2 ty2 (tc 1)) (tZ tx1 ty1 (tc 1) tx2 ty2 (tc 1)) tx3 ty3 (tc 1)
def rX : T3 := tX tx1 ty1 (tc 1) (tX tx2 ty2 (tc 1) tx3 ty3 (tc 1)) (tY tx2 ty2 (tc 1) tx3 ty3 (tc 1)) (tZ tx2 ty2 (tc 1) tx3 ty3 (tc 1))
def rY : T3 := tY tx1 ty1 (tc 1) (tX tx2 ty2 (tc 1) tx3 ty3 (tc 1)) (tY tx2 ty2 (tc 1) tx3 ty3 (tc 1)) (tZ tx2 ty2 (tc 1) tx3 ty3 (tc 1))
def rZ : T3 := tZ tx1 ty1 (tc 1) (tX tx2 ty2 (tc 1) tx3 ty3 (tc 1)) (tY tx2 ty2 (tc 1) tx3 ty3 (tc 1)) (tZ tx2 ty2 (tc 1) tx3 ty3 (tc 1))
end Mvq

/- Three points' sum: first and last coordinate. -/
namespace Mvq
theorem cross_XZ : (o3.mul lX rZ == o3.mul rX lZ) = true := by decide +kernel
end Mvq

/- Three points' sum: second and last coordinate. -/
namespace Mvq
theorem cross_YZ : (o3.mul lY rZ == o3.mul rY lZ) = true := by decide +kernel
end Mvq

/- The complete sum of points does not hang on brackets. -/
namespace Mvq
theorem bd0 : PBd 1 [] := pBd_of _ _ (by decide)
theorem rp_tc (x1 x2 x3 y1 y2 y3 : K) (n : Nat) : Rp (v3 x1 x2 x3 y1 y2 y3) 0 (tc n) (kc n) := by
  refine ⟨?_, ?_⟩
  · simp only [tc, v3, prVal, plv, mo]; grind -lia -linarith
  · have h0 : PBd 0 [] := pBd_of _ _ (by decide)
    have h1 : PBd 0 [(0, n)] := pBd_of _ _ (by simp)
    exact ⟨⟨⟨h1, h0⟩, ⟨h0, h0⟩⟩, ⟨⟨h0, h0⟩, ⟨h0, h0⟩⟩⟩
section
variable (x1 x2 x3 y1 y2 y3 : K)
theorem kc1' : kc 1 = 1 := by decide
theorem rp_x1 : Rp (v3 x1 x2 x3 y1 y2 y3) 1 tx1 x1 := by
  refine ⟨?_, ⟨⟨⟨pBd_of _ _ (by decide), bd0⟩, ⟨bd0, bd0⟩⟩, ⟨⟨bd0, bd0⟩, ⟨bd0, bd0⟩⟩⟩⟩
  simp only [tx1, e0, e1, v3, prVal, plv, mo, kc1']; grind -lia -linarith
theorem rp_x2 : Rp (v3 x1 x2 x3 y1 y2 y3) 1 tx2 x2 := by
  refine ⟨?_, ⟨⟨⟨pBd_of _ _ (by decide), bd0⟩, ⟨bd0, bd0⟩⟩, ⟨⟨bd0, bd0⟩, ⟨bd0, bd0⟩⟩⟩⟩
  simp only [tx2, e0, e1, v3, prVal, plv, mo, kc1']; grind -lia -linarith
theorem rp_x3 : Rp (v3 x1 x2 x3 y1 y2 y3) 1 tx3 x3 := by
  refine ⟨?_, ⟨⟨⟨pBd_of _ _ (by decide), bd0⟩, ⟨bd0, bd0⟩⟩, ⟨⟨bd0, bd0⟩, ⟨bd0, bd0⟩⟩⟩⟩
  simp only [tx3, e0, e1, v3, prVal, plv, mo, kc1']; grind -lia -linarith
theorem rp_y1 : Rp (v3 x1 x2 x3 y1 y2 y3) 1 ty1 y1 := by
  refine ⟨?_, ⟨⟨⟨bd0, pBd_of _ _ (by decide)⟩, ⟨bd0, bd0⟩⟩, ⟨⟨bd0, bd0⟩, ⟨bd0, bd0⟩⟩⟩⟩
  simp only [ty1, e0, e1, v3, prVal, plv, mo, kc1']; grind -lia -linarith
theorem rp_y2 : Rp (v3 x1 x2 x3 y1 y2 y3) 1 ty2 y2 := by
  refine ⟨?_, ⟨⟨⟨bd0, bd0⟩, ⟨pBd_of _ _ (by decide), bd0⟩⟩, ⟨⟨bd0, bd0⟩, ⟨bd0, bd0⟩⟩⟩⟩
  simp only [ty2, e0, e1, v3, prVal, plv, mo, kc1']; grind -lia -linarith
theorem rp_y3 : Rp (v3 x1 x2 x3 y1 y2 y3) 1 ty3 y3 := by
  refine ⟨?_, ⟨⟨⟨bd0, bd0⟩, ⟨bd0, bd0⟩⟩, ⟨⟨pBd_of _ _ (by decide), bd0⟩, ⟨bd0, bd0⟩⟩⟩⟩
  simp only [ty3, e0, e1, v3, prVal, plv, mo, kc1']; grind -lia -linarith
end
theorem assoc (x1 x2 x3 y1 y2 y3 : K) (h1 : y1 * y1 = x1 * x1 * x1 + 7) (h2 : y2 * y2 = x2 * x2 * x2 + 7) (h3 : y3 * y3 = x3 * x3 * x3 + 7) :
    cX (cX x1 y1 1 x2 y2 1) (cY x1 y1 1 x2 y2 1) (cZ x1 y1 1 x2 y2 1) x3 y3 1 * cZ x1 y1 1 (cX x2 y2 1 x3 y3 1) (cY x2 y2 1 x3 y3 1) (cZ x2 y2 1 x3 y3 1) =
      cX x1 y1 1 (cX x2 y2 1 x3 y3 1) (cY x2 y2 1 x3 y3 1) (cZ x2 y2 1 x3 y3 1) * cZ (cX x1 y1 1 x2 y2 1) (cY x1 y1 1 x2 y2 1) (cZ x1 y1 1 x2 y2 1) x3 y3 1 ∧
    cY (cX x1 y1 1 x2 y2 1) (cY x1 y1 1 x2 y2 1) (cZ x1 y1 1 x2 y2 1) x3 y3 1 * cZ x1 y1 1 (cX x2 y2 1 x3 y3 1) (cY x2 y2 1 x3 y3 1) (cZ x2 y2 1 x3 y3 1) =
      cY x1 y1 1 (cX x2 y2 1 x3 y3 1) (cY x2 y2 1 x3 y3 1) (cZ x2 y2 1 x3 y3 1) * cZ (cX x1 y1 1 x2 y2 1) (cY x1 y1 1 x2 y2 1) (cZ x1 y1 1 x2 y2 1) x3 y3 1 := by
  have S := snd3 x1 x2 x3 y1 y2 y3 h1 h2 h3
  have hc := rp_tc x1 x2 x3 y1 y2 y3
  have c1 : Rp (v3 x1 x2 x3 y1 y2 y3) 1 (tc 1) 1 := (kc1' ▸ hc 1).mono S (by omega)
  have A := t_ok S hc (rp_x1 x1 x2 x3 y1 y2 y3) (rp_y1 x1 x2 x3 y1 y2 y3) c1 (rp_x2 x1 x2 x3 y1 y2 y3) (rp_y2 x1 x2 x3 y1 y2 y3) c1 (by omega)
  have B := t_ok S hc (rp_x2 x1 x2 x3 y1 y2 y3) (rp_y2 x1 x2 x3 y1 y2 y3) c1 (rp_x3 x1 x2 x3 y1 y2 y3) (rp_y3 x1 x2 x3 y1 y2 y3) c1 (by omega)
  have L := t_ok S hc A.1 A.2.1 A.2.2 (rp_x3 x1 x2 x3 y1 y2 y3) (rp_y3 x1 x2 x3 y1 y2 y3) c1 (by omega)
  have R := t_ok S hc (rp_x1 x1 x2 x3 y1 y2 y3) (rp_y1 x1 x2 x3 y1 y2 y3) c1 B.1 B.2.1 B.2.2 (by omega)
  have m1 := Rp.mul S L.1 R.2.2 (by omega)
  have m2 := Rp.mul S R.1 L.2.2 (by omega)
  have m3 := Rp.mul S L.2.1 R.2.2 (by omega)
  have m4 := Rp.mul S R.2.1 L.2.2 (by omega)
  refine ⟨?_, ?_⟩
  · rw [← m1.val, ← m2.val]; exact congrArg _ (eq_of_beq cross_XZ)
  · rw [← m3.val, ← m4.val]; exact congrArg _ (eq_of_beq cross_YZ)
end Mvq

/- The field of the curve, and the curve's points: inverses; no root of -7; the complete sum is never empty. -/
namespace Mvq
theorem isP_fP : IsP fP := isP_pP
theorem fP_val (a : K) : a.val < fP := a.isLt
theorem k_ne {a : K} (h : a ≠ 0) : ¬ fP ∣ a.val := by
  intro hd
  have h1 := fP_val a
  have h2 : a.val ≠ 0 := fun e => h (Fin.ext e)
  have := Nat.le_of_dvd (by omega) hd
  omega
def kinv (a : K) : K := kc (a.val ^ (fP - 2))
theorem kc_val (a : K) : kc a.val = a := by
  apply Fin.ext; simp [kc, Fin.ofNat, Nat.mod_eq_of_lt a.isLt]
theorem kc_mul' (a b : Nat) : kc (a * b) = kc a * kc b := by
  rw [← kc_mul]; apply Fin.ext; simp [kc, Fin.ofNat]
theorem kc_mod (a : Nat) : kc (a % fP) = kc a := by apply Fin.ext; simp [kc, Fin.ofNat]
theorem mul_kinv {a : K} (h : a ≠ 0) : a * kinv a = 1 := by
  have h1 := fermat isP_fP (k_ne h)
  have h2 : a.val * a.val ^ (fP - 2) = a.val ^ (fP - 1) := by rw [Nat.mul_comm, ← Nat.pow_succ, show (fP - 2).succ = fP - 1 by decide]
  have h3 : a * kinv a = kc (a.val * a.val ^ (fP - 2)) := by rw [kc_mul', kc_val]; rfl
  rw [h3, h2, ← kc_mod, h1]; decide
theorem mul_zero' {a b : K} (h : a * b = 0) : a = 0 ∨ b = 0 := by
  by_cases ha : a = 0
  · exact Or.inl ha
  · right
    have h1 := mul_kinv ha
    generalize kinv a = c at *
    grind -lia -linarith
theorem cancelK {a b c : K} (ha : a ≠ 0) (h : a * b = a * c) : b = c := by
  have h1 := mul_kinv ha
  generalize kinv a = d at *
  grind -lia -linarith
theorem pow_val (a : K) (n : Nat) : kc (a.val ^ n) = a ^ n := by
  induction n with
  | zero => rw [Nat.pow_zero]; have : kc 1 = 1 := by decide
            rw [this]; grind -lia -linarith
  | succ n ih => rw [Nat.pow_succ, kc_mul', ih, kc_val]; grind -lia -linarith
theorem no_root (c : K) : c * c * c + 7 ≠ 0 := by
  intro h
  have hc : c * c * c = kc (fP - 7) := by
    have : kc (fP - 7) + 7 = 0 := by decide
    generalize kc (fP - 7) = m at *
    grind -lia -linarith
  have hc0 : c ≠ 0 := by
    intro h0
    subst h0
    exact absurd h (by decide)
  have h1 : c ^ (fP - 1) = 1 := by
    rw [← pow_val, ← kc_mod, fermat isP_fP (k_ne hc0)]; decide
  have h2 : c ^ (fP - 1) = (c * c * c) ^ ((fP - 1) / 3) := by
    have e : (fP - 1) = (fP - 1) / 3 + (fP - 1) / 3 + (fP - 1) / 3 := by decide
    generalize (fP - 1) / 3 = n at *
    rw [e, pw_add, pw_add]
    clear e h1 h hc hc0
    induction n with
    | zero => grind -lia -linarith
    | succ n ih =>
      have e1 : ∀ x : K, x ^ (n + 1) = x ^ n * x := fun x => by grind -lia -linarith
      rw [e1, e1, ← ih]
      generalize c ^ n = d
      grind -lia -linarith
  rw [h1, hc] at h2
  have h3 : kc (fP - 7) ^ ((fP - 1) / 3) = kc ((fP - 7) ^ ((fP - 1) / 3) % fP) := by
    rw [kc_mod]
    generalize (fP - 1) / 3 = n
    induction n with
    | zero => have : kc 1 = 1 := by decide
              rw [Nat.pow_zero, this]; grind -lia -linarith
    | succ n ih => rw [Nat.pow_succ, kc_mul', ← ih]; grind -lia -linarith
  rw [h3, ← pm_ok fP 256 (fP - 7) ((fP - 1) / 3) (by decide)] at h2
  exact absurd h2 (by decide +kernel)
end Mvq

/- The curve's points: a group. -/
namespace Mvq
inductive Pt where
  | O : Pt
  | A : K → K → Pt
def onC : Pt → Prop
  | .O => True
  | .A x y => y * y = x * x * x + 7
/-- a point out of a fraction -/
def nm (X Y Z : K) : Pt := if Z = 0 then .O else .A (X * kinv Z) (Y * kinv Z)
def padd : Pt → Pt → Pt
  | .O, q => q
  | .A x y, .O => .A x y
  | .A x1 y1, .A x2 y2 => nm (cX x1 y1 1 x2 y2 1) (cY x1 y1 1 x2 y2 1) (cZ x1 y1 1 x2 y2 1)
def pneg : Pt → Pt
  | .O => .O
  | .A x y => .A x (-y)
theorem km21 : kc (fP - 21) = -21 := by decide
theorem k21 : kc 21 = 21 := by decide
theorem k63 : kc 63 = 63 := by decide
theorem k3 : kc 3 = 3 := by decide
theorem cX_eq (X1 Y1 Z1 X2 Y2 Z2 : K) : cX X1 Y1 Z1 X2 Y2 Z2 = (X1*Y2 + X2*Y1)*(Y1*Y2 - 21*Z1*Z2) - 21*(Y1*Z2 + Y2*Z1)*(X1*Z2 + X2*Z1) := by
  unfold cX; rw [km21]; grind -lia -linarith
theorem cY_eq (X1 Y1 Z1 X2 Y2 Z2 : K) : cY X1 Y1 Z1 X2 Y2 Z2 = (Y1*Y2 + 21*Z1*Z2)*(Y1*Y2 - 21*Z1*Z2) + 63*X1*X2*(X1*Z2 + X2*Z1) := by
  unfold cY; rw [km21, k21, k63]; grind -lia -linarith
theorem cZ_eq (X1 Y1 Z1 X2 Y2 Z2 : K) : cZ X1 Y1 Z1 X2 Y2 Z2 = (Y1*Z2 + Y2*Z1)*(Y1*Y2 + 21*Z1*Z2) + 3*X1*X2*(X1*Y2 + X2*Y1) := by
  unfold cZ; rw [k21, k3]; grind -lia -linarith
theorem nm_scale {a X Y Z : K} (ha : a ≠ 0) : nm (a * X) (a * Y) (a * Z) = nm X Y Z := by
  unfold nm
  by_cases hz : Z = 0
  · rw [if_pos hz, if_pos (by rw [hz]; grind -lia -linarith)]
  · have haz : a * Z ≠ 0 := fun h => (mul_zero' h).elim ha hz
    rw [if_neg hz, if_neg haz]
    have h1 := mul_kinv hz
    have h2 := mul_kinv haz
    generalize kinv Z = u at *
    generalize kinv (a * Z) = v at *
    have h3 : a * v = u := by
      refine cancelK hz ?_
      grind -lia -linarith
    congr 1
    · rw [← h3]; grind -lia -linarith
    · rw [← h3]; grind -lia -linarith
theorem y_ne {x y : K} (h : y * y = x * x * x + 7) : y ≠ 0 := by
  intro h0
  subst h0
  refine no_root x ?_
  grind -lia -linarith
theorem two_ne : (2 : K) ≠ 0 := by decide
/-- the difference's second coordinate -/
theorem z_id {x1 y1 x2 y2 : K} (h1 : y1 * y1 = x1 * x1 * x1 + 7) (h2 : y2 * y2 = x2 * x2 * x2 + 7) :
    cZ x1 y1 1 x2 y2 1 * cZ x1 y1 1 x2 y2 1 = (x1*x2*(x1+x2) + 14 + 2*y1*y2) * (x1*x2*(x1+x2) + 14 + 2*y1*y2) * (x1*x2*(x1+x2) + 14 + 2*y1*y2) + 7 * ((x2-x1)*(x2-x1)*(x2-x1)*(x2-x1)*(x2-x1)*(x2-x1)) := by
  rw [cZ_eq]
  grind -lia -linarith
theorem z_zero {x1 y1 x2 y2 : K} (h1 : y1 * y1 = x1 * x1 * x1 + 7) (h2 : y2 * y2 = x2 * x2 * x2 + 7) (hz : cZ x1 y1 1 x2 y2 1 = 0) : x2 = x1 ∧ y2 = -y1 := by
  by_cases hx : x2 - x1 = 0
  · have hx' : x2 = x1 := by grind -lia -linarith
    subst hx'
    have hyy : (y2 - y1) * (y2 + y1) = 0 := by grind -lia -linarith
    rcases mul_zero' hyy with h | h
    · exfalso
      have e : y2 = y1 := by grind -lia -linarith
      subst e
      rw [cZ_eq] at hz
      have h8 : (2 * y2) * ((2 * y2) * (2 * y2)) = 0 := by grind -lia -linarith
      have hy := y_ne h1
      have h2y : (2 : K) * y2 ≠ 0 := fun h => (mul_zero' h).elim two_ne hy
      exact (mul_zero' h8).elim h2y fun h => (mul_zero' h).elim h2y h2y
    · exact ⟨rfl, by grind -lia -linarith⟩
  · exfalso
    have hi := z_id h1 h2
    rw [hz] at hi
    have hd := mul_kinv hx
    generalize kinv (x2 - x1) = u at *
    generalize x1*x2*(x1+x2) + 14 + 2*y1*y2 = m at *
    generalize x2 - x1 = d at *
    refine no_root (m * u * u) ?_
    have e : (m * u * u) * (m * u * u) * (m * u * u) + 7 = (m * m * m + 7 * (d * d * d * d * d * d)) * (u * u * u * u * u * u) := by grind -lia -linarith
    rw [e, ← hi]
    grind -lia -linarith
theorem y_id (x y : K) (h : y * y = x * x * x + 7) (h0 : x*x*x*x*x*x + 140*(x*x*x) - 392 = 0) : False := by
  have hy := y_ne h
  have h2 : (2 : K) * y ≠ 0 := fun h => (mul_zero' h).elim two_ne hy
  have hu := mul_kinv h2
  generalize kinv (2 * y) = u at *
  refine no_root ((x*x*x*x - 56*x) * u * u) ?_
  have e : ((x*x*x*x - 56*x) * u * u) * ((x*x*x*x - 56*x) * u * u) * ((x*x*x*x - 56*x) * u * u) + 7 = ((x*x*x*x - 56*x) * (x*x*x*x - 56*x) * (x*x*x*x - 56*x) + 7 * ((2*y)*(2*y)*(2*y)*(2*y)*(2*y)*(2*y))) * (u * u * u * u * u * u) := by grind -lia -linarith
  have e2 : (x*x*x*x - 56*x) * (x*x*x*x - 56*x) * (x*x*x*x - 56*x) + 7 * ((2*y)*(2*y)*(2*y)*(2*y)*(2*y)*(2*y)) = (x*x*x*x*x*x + 140*(x*x*x) - 392) * (x*x*x*x*x*x + 140*(x*x*x) - 392) := by
    have e3 : (2*y)*(2*y)*(2*y)*(2*y)*(2*y)*(2*y) = 64 * ((x*x*x+7)*(x*x*x+7)*(x*x*x+7)) := by rw [← h]; grind -lia -linarith
    rw [e3]; grind -lia -linarith
  rw [e, e2, h0]; grind -lia -linarith
/-- a fraction that tells a point -/
def okT (X Y Z : K) : Prop := Z ≠ 0 ∨ (X = 0 ∧ Y ≠ 0)
theorem sum_ok {x1 y1 x2 y2 : K} (h1 : y1 * y1 = x1 * x1 * x1 + 7) (h2 : y2 * y2 = x2 * x2 * x2 + 7) : okT (cX x1 y1 1 x2 y2 1) (cY x1 y1 1 x2 y2 1) (cZ x1 y1 1 x2 y2 1) := by
  by_cases hz : cZ x1 y1 1 x2 y2 1 = 0
  · right
    obtain ⟨rfl, rfl⟩ := z_zero h1 h2 hz
    refine ⟨?_, fun h0 => ?_⟩
    · rw [cX_eq]; grind -lia -linarith
    · rw [cY_eq] at h0
      exact y_id x2 y1 h1 (by grind -lia -linarith)
  · exact Or.inl hz
theorem sum_on {x1 y1 x2 y2 : K} (h1 : y1 * y1 = x1 * x1 * x1 + 7) (h2 : y2 * y2 = x2 * x2 * x2 + 7) :
    cY x1 y1 1 x2 y2 1 * cY x1 y1 1 x2 y2 1 * cZ x1 y1 1 x2 y2 1 = cX x1 y1 1 x2 y2 1 * cX x1 y1 1 x2 y2 1 * cX x1 y1 1 x2 y2 1 + 7 * (cZ x1 y1 1 x2 y2 1 * cZ x1 y1 1 x2 y2 1 * cZ x1 y1 1 x2 y2 1) := by
  have eX : cX x1 y1 1 x2 y2 1 = x1*x2*x2*x2*y1 + x2*x1*x1*x1*y2 - 14*x1*y1 - 14*x2*y2 - 42*x1*y2 - 42*x2*y1 := by rw [cX_eq]; grind -lia -linarith
  have eY : cY x1 y1 1 x2 y2 1 = x1*x1*x1*x2*x2*x2 + 7*x1*x1*x1+7*x2*x2*x2 - 392 + 63*x1*x1*x2+63*x1*x2*x2 := by rw [cY_eq]; grind -lia -linarith
  have eZ : cZ x1 y1 1 x2 y2 1 = x1*x1*x1*y2 + 28*y2+28*y1+x2*x2*x2*y1+3*x1*x1*x2*y2+3*x1*x2*x2*y1 := by rw [cZ_eq]; grind -lia -linarith
  rw [eX, eY, eZ]
  clear eX eY eZ
  grind -lia -linarith
theorem nm_on {X Y Z : K} (h : Y * Y * Z = X * X * X + 7 * (Z * Z * Z)) : onC (nm X Y Z) := by
  unfold nm
  split
  · trivial
  · rename_i hz
    have h1 := mul_kinv hz
    generalize kinv Z = u at *
    show (Y * u) * (Y * u) = (X * u) * (X * u) * (X * u) + 7
    have e : (Y * u) * (Y * u) = (Y * Y * Z) * (u * u * u) := by grind -lia -linarith
    rw [e, h]; grind -lia -linarith
theorem padd_on {p q : Pt} (hp : onC p) (hq : onC q) : onC (padd p q) := by
  cases p with
  | O => exact hq
  | A x1 y1 => cases q with
    | O => exact hp
    | A x2 y2 => exact nm_on (sum_on hp hq)
theorem padd_comm (p q : Pt) : padd p q = padd q p := by
  cases p with
  | O => cases q <;> rfl
  | A x1 y1 => cases q with
    | O => rfl
    | A x2 y2 =>
      have eX : cX x1 y1 1 x2 y2 1 = cX x2 y2 1 x1 y1 1 := by rw [cX_eq, cX_eq]; grind -lia -linarith
      have eY : cY x1 y1 1 x2 y2 1 = cY x2 y2 1 x1 y1 1 := by rw [cY_eq, cY_eq]; grind -lia -linarith
      have eZ : cZ x1 y1 1 x2 y2 1 = cZ x2 y2 1 x1 y1 1 := by rw [cZ_eq, cZ_eq]; grind -lia -linarith
      simp only [padd, eX, eY, eZ]
theorem padd_zero (p : Pt) : padd p .O = p := by cases p <;> rfl
theorem padd_neg {p : Pt} : padd p (pneg p) = .O := by
  cases p with
  | O => rfl
  | A x y =>
    have eZ : cZ x y 1 x (-y) 1 = 0 := by rw [cZ_eq]; grind -lia -linarith
    simp only [pneg, padd, nm, eZ, if_true]
theorem pneg_on {p : Pt} (hp : onC p) : onC (pneg p) := by
  cases p with
  | O => trivial
  | A x y => show (-y) * (-y) = x * x * x + 7; have : y * y = x * x * x + 7 := hp; grind -lia -linarith
/-- a fraction and a point -/
theorem nm_padd {X Y Z x y : K} (ht : okT X Y Z) (hq : y * y = x * x * x + 7) (hp : onC (nm X Y Z)) :
    padd (nm X Y Z) (.A x y) = nm (cX X Y Z x y 1) (cY X Y Z x y 1) (cZ X Y Z x y 1) ∧ okT (cX X Y Z x y 1) (cY X Y Z x y 1) (cZ X Y Z x y 1) := by
  by_cases hz : Z = 0
  · obtain ⟨hX, hY⟩ := ht.resolve_left (by simpa using hz)
    subst hz hX
    have hy := y_ne hq
    have hs : Y * Y * y ≠ 0 := fun h => (mul_zero' h).elim (fun h => (mul_zero' h).elim hY hY) hy
    have eX : cX 0 Y 0 x y 1 = (Y * Y * y) * x := by rw [cX_eq]; grind -lia -linarith
    have eY : cY 0 Y 0 x y 1 = (Y * Y * y) * y := by rw [cY_eq]; grind -lia -linarith
    have eZ : cZ 0 Y 0 x y 1 = (Y * Y * y) * 1 := by rw [cZ_eq]; grind -lia -linarith
    rw [eX, eY, eZ, nm_scale hs]
    constructor
    · have h0 : nm 0 Y 0 = .O := by unfold nm; rw [if_pos rfl]
      have h1 : nm x y 1 = .A x y := by
        unfold nm
        rw [if_neg (by decide)]
        have h1 := mul_kinv (show (1 : K) ≠ 0 by decide)
        generalize kinv (1 : K) = u at *
        congr 1
        · grind -lia -linarith
        · grind -lia -linarith
      rw [h0, h1]; rfl
    · left
      intro h; exact hs (by grind -lia -linarith)
  · have hN : nm X Y Z = .A (X * kinv Z) (Y * kinv Z) := by unfold nm; rw [if_neg hz]
    rw [hN] at hp ⊢
    have h1 := mul_kinv hz
    have hp' : (Y * kinv Z) * (Y * kinv Z) = (X * kinv Z) * (X * kinv Z) * (X * kinv Z) + 7 := hp
    have hok := sum_ok hp' hq
    generalize kinv Z = u at *
    have eX : cX X Y Z x y 1 = (Z * Z) * cX (X * u) (Y * u) 1 x y 1 := by rw [cX_eq, cX_eq]; grind -lia -linarith
    have eY : cY X Y Z x y 1 = (Z * Z) * cY (X * u) (Y * u) 1 x y 1 := by rw [cY_eq, cY_eq]; grind -lia -linarith
    have eZ : cZ X Y Z x y 1 = (Z * Z) * cZ (X * u) (Y * u) 1 x y 1 := by rw [cZ_eq, cZ_eq]; grind -lia -linarith
    have hzz : Z * Z ≠ 0 := fun h => (mul_zero' h).elim hz hz
    rw [eX, eY, eZ, nm_scale hzz]
    refine ⟨rfl, ?_⟩
    rcases hok with h | ⟨h2, h3⟩
    · exact Or.inl fun h' => (mul_zero' h').elim hzz h
    · exact Or.inr ⟨by rw [h2]; grind -lia -linarith, fun h' => (mul_zero' h').elim hzz h3⟩
theorem nm_same {X Y Z X' Y' Z' : K} (h : okT X Y Z) (h' : okT X' Y' Z') (e1 : X * Z' = X' * Z) (e2 : Y * Z' = Y' * Z) : nm X Y Z = nm X' Y' Z' := by
  by_cases hz : Z = 0
  · obtain ⟨hX, hY⟩ := h.resolve_left (by simpa using hz)
    subst hz
    have : Y * Z' = 0 := by rw [e2]; grind -lia -linarith
    have hz' := (mul_zero' this).resolve_left hY
    unfold nm
    rw [if_pos rfl, if_pos hz']
  · by_cases hz' : Z' = 0
    · obtain ⟨hX, hY⟩ := h'.resolve_left (by simpa using hz')
      subst hz'
      exfalso
      have : Y' * Z = 0 := by rw [← e2]; grind -lia -linarith
      exact (mul_zero' this).elim hY hz
    · unfold nm
      rw [if_neg hz, if_neg hz']
      have h1 := mul_kinv hz
      have h2 := mul_kinv hz'
      generalize kinv Z = u at *
      generalize kinv Z' = v at *
      congr 1
      · refine cancelK hz (cancelK hz' ?_); grind -lia -linarith
      · refine cancelK hz (cancelK hz' ?_); grind -lia -linarith
theorem padd_assoc {p q r : Pt} (hp : onC p) (hq : onC q) (hr : onC r) : padd (padd p q) r = padd p (padd q r) := by
  cases p with
  | O => rfl
  | A x1 y1 => cases q with
    | O => cases r <;> rfl
    | A x2 y2 => cases r with
      | O => rw [padd_zero, padd_zero]
      | A x3 y3 =>
        have h1 : y1 * y1 = x1 * x1 * x1 + 7 := hp
        have h2 : y2 * y2 = x2 * x2 * x2 + 7 := hq
        have h3 : y3 * y3 = x3 * x3 * x3 + 7 := hr
        have hA := nm_padd (sum_ok h1 h2) h3 (nm_on (sum_on h1 h2))
        have hB := nm_padd (sum_ok h2 h3) h1 (nm_on (sum_on h2 h3))
        have hass := assoc x1 x2 x3 y1 y2 y3 h1 h2 h3
        rw [padd_comm (.A x1 y1) (padd _ _)]
        show padd (nm _ _ _) (.A x3 y3) = padd (nm _ _ _) (.A x1 y1)
        rw [hA.1, hB.1]
        have swX : ∀ X Y Z : K, cX X Y Z x1 y1 1 = cX x1 y1 1 X Y Z := fun X Y Z => by rw [cX_eq, cX_eq]; grind -lia -linarith
        have swY : ∀ X Y Z : K, cY X Y Z x1 y1 1 = cY x1 y1 1 X Y Z := fun X Y Z => by rw [cY_eq, cY_eq]; grind -lia -linarith
        have swZ : ∀ X Y Z : K, cZ X Y Z x1 y1 1 = cZ x1 y1 1 X Y Z := fun X Y Z => by rw [cZ_eq, cZ_eq]; grind -lia -linarith
        have hB2 := hB.2
        rw [swX, swY, swZ] at hB2 ⊢
        exact nm_same hA.2 hB2 hass.1 hass.2
end Mvq

/- Chord and tangent; the program's sum and double (X / Z^2, Y / Z^3); the reference's (X / Z, Y / Z); multiples. -/
namespace Mvq
/-- the chord -/
theorem chord4 {x1 y1 x2 y2 : K} (h1 : y1 * y1 = x1 * x1 * x1 + 7) (h2 : y2 * y2 = x2 * x2 * x2 + 7) : (x1*x2*(x1+x2) + 14 - 2*y1*y2) = (y2 - y1) * (y2 - y1) - (x1 + x2) * ((x2 - x1) * (x2 - x1)) := by
  grind -lia -linarith
theorem chordY {x1 y1 x2 y2 : K} (h1 : y1 * y1 = x1 * x1 * x1 + 7) (h2 : y2 * y2 = x2 * x2 * x2 + 7) : cY x1 y1 1 x2 y2 1 * ((x2 - x1) * (x2 - x1) * (x2 - x1)) = ((y2 - y1) * (x1 * ((x2 - x1) * (x2 - x1)) - (x1*x2*(x1+x2) + 14 - 2*y1*y2)) - y1 * ((x2 - x1) * (x2 - x1) * (x2 - x1))) * cZ x1 y1 1 x2 y2 1 := by
  have eY : cY x1 y1 1 x2 y2 1 = x1*x1*x1*x2*x2*x2 + 7*x1*x1*x1+7*x2*x2*x2 - 392 + 63*x1*x1*x2+63*x1*x2*x2 := by rw [cY_eq]; grind -lia -linarith
  have eZ : cZ x1 y1 1 x2 y2 1 = x1*x1*x1*y2 + 28*y2+28*y1+x2*x2*x2*y1+3*x1*x1*x2*y2+3*x1*x2*x2*y1 := by rw [cZ_eq]; grind -lia -linarith
  rw [eY, eZ]
  clear eY eZ
  grind -lia -linarith
theorem padd_chord {x1 y1 x2 y2 u : K} (h1 : y1 * y1 = x1 * x1 * x1 + 7) (h2 : y2 * y2 = x2 * x2 * x2 + 7) (hd : (x2 - x1) * u = 1) :
    padd (.A x1 y1) (.A x2 y2) = .A (((y2 - y1) * u) * ((y2 - y1) * u) - x1 - x2) (((y2 - y1) * u) * (x1 - (((y2 - y1) * u) * ((y2 - y1) * u) - x1 - x2)) - y1) := by
  have hz : cZ x1 y1 1 x2 y2 1 ≠ 0 := fun h => by
    obtain ⟨rfl, -⟩ := z_zero h1 h2 h
    have : (0 : K) = 1 := by rw [← hd]; grind -lia -linarith
    exact absurd this (by decide)
  show nm _ _ _ = _
  have hd0 : x2 - x1 ≠ 0 := fun h => by
    rw [h] at hd
    have : (0 : K) = 1 := by rw [← hd]; grind -lia -linarith
    exact absurd this (by decide)
  have eX : cX x1 y1 1 x2 y2 1 * ((x2 - x1) * (x2 - x1)) = (x1*x2*(x1+x2) + 14 - 2*y1*y2) * cZ x1 y1 1 x2 y2 1 := by
    rw [cX_eq, cZ_eq]; grind -lia -linarith
  have e4 : (x1*x2*(x1+x2) + 14 - 2*y1*y2) = (y2 - y1) * (y2 - y1) - (x1 + x2) * ((x2 - x1) * (x2 - x1)) := chord4 h1 h2
  have eY := chordY h1 h2
  rw [e4] at eX eY
  unfold nm
  rw [if_neg hz]
  have hv := mul_kinv hz
  generalize kinv (cZ x1 y1 1 x2 y2 1) = v at *
  generalize cX x1 y1 1 x2 y2 1 = X at *
  generalize cY x1 y1 1 x2 y2 1 = Y at *
  generalize cZ x1 y1 1 x2 y2 1 = Z at *
  clear h1 h2 e4
  generalize hdd : x2 - x1 = d at *
  generalize y2 - y1 = n at *
  have hx2 : x2 = x1 + d := by rw [← hdd]; grind -lia -linarith
  subst hx2
  clear hdd
  congr 1
  · refine cancelK hd0 (cancelK hd0 (cancelK hz ?_)); grind -lia -linarith
  · refine cancelK hd0 (cancelK hd0 (cancelK hd0 (cancelK hz ?_))); grind -lia -linarith
/-- the tangent -/
theorem padd_tangent {x y u : K} (h : y * y = x * x * x + 7) (hd : (2 * y) * u = 1) :
    padd (.A x y) (.A x y) = .A ((3 * x * x * u) * (3 * x * x * u) - x - x) ((3 * x * x * u) * (x - ((3 * x * x * u) * (3 * x * x * u) - x - x)) - y) := by
  have hy := y_ne h
  have h2y : (2 : K) * y ≠ 0 := fun h => (mul_zero' h).elim two_ne hy
  have eZ : cZ x y 1 x y 1 = (2 * y) * (2 * y) * (2 * y) := by rw [cZ_eq]; grind -lia -linarith
  have eX : cX x y 1 x y 1 = (2 * y) * (9 * x * x * x * x - 2 * x * ((2 * y) * (2 * y))) := by rw [cX_eq]; grind -lia -linarith
  have eY : cY x y 1 x y 1 = 3 * x * x * (x * ((2 * y) * (2 * y)) - (9 * x * x * x * x - 2 * x * ((2 * y) * (2 * y)))) - y * ((2 * y) * (2 * y) * (2 * y)) := by rw [cY_eq]; grind -lia -linarith
  show nm _ _ _ = _
  have hz : cZ x y 1 x y 1 ≠ 0 := by
    rw [eZ]; exact fun h => (mul_zero' h).elim (fun h => (mul_zero' h).elim h2y h2y) h2y
  unfold nm
  rw [if_neg hz]
  have hv := mul_kinv hz
  generalize kinv (cZ x y 1 x y 1) = v at *
  rw [eX, eY]
  rw [eZ] at hv
  clear eX eY eZ hz h
  generalize h2 : 2 * y = t at *
  congr 1
  · refine cancelK h2y (cancelK h2y ?_); grind -lia -linarith
  · refine cancelK h2y (cancelK h2y (cancelK h2y ?_)); grind -lia -linarith
/-- a point as X / Z^2, Y / Z^3 -/
def jk (X Y Z : K) : Pt := if Z = 0 then .O else .A (X * (kinv Z * kinv Z)) (Y * (kinv Z * kinv Z * kinv Z))
theorem jk_nz {X Y Z : K} (hz : Z ≠ 0) : jk X Y Z = .A (X * (kinv Z * kinv Z)) (Y * (kinv Z * kinv Z * kinv Z)) := by unfold jk; rw [if_neg hz]
theorem jk_z {X Y Z : K} (hz : Z = 0) : jk X Y Z = .O := by unfold jk; rw [if_pos hz]
/-- what is told by a point is told by it -/
theorem jk_is {X Y Z x y : K} (hz : Z ≠ 0) (hx : X = x * (Z * Z)) (hy : Y = y * (Z * Z * Z)) : jk X Y Z = .A x y := by
  rw [jk_nz hz]
  have h1 := mul_kinv hz
  generalize kinv Z = u at *
  subst hx hy
  congr 1
  · grind -lia -linarith
  · grind -lia -linarith
theorem jk_form {X Y Z : K} (hz : Z ≠ 0) (h : onC (jk X Y Z)) : ∃ x y, jk X Y Z = .A x y ∧ y * y = x * x * x + 7 ∧ X = x * (Z * Z) ∧ Y = y * (Z * Z * Z) := by
  refine ⟨_, _, jk_nz hz, ?_, ?_, ?_⟩
  · rw [jk_nz hz] at h; exact h
  · have h1 := mul_kinv hz
    generalize kinv Z = u at *
    grind -lia -linarith
  · have h1 := mul_kinv hz
    generalize kinv Z = u at *
    grind -lia -linarith
theorem jk_double {X Y Z : K} (h : onC (jk X Y Z)) (hz : Z ≠ 0) (a b bb d e x' : K) (ha : a = X * X) (hb : b = Y * Y) (hbb : bb = b * b) (hd : d = 2 * ((X + b) * (X + b) - (a + bb))) (he : e = 3 * a) (hx : x' = e * e - (d + d)) :
    jk x' (e * (d - x') - 8 * bb) (2 * (Y * Z)) = padd (jk X Y Z) (jk X Y Z) := by
  obtain ⟨x, y, e0, hon, hX, hY⟩ := jk_form hz h
  have hy := y_ne hon
  have h2y : (2 : K) * y ≠ 0 := fun h => (mul_zero' h).elim two_ne hy
  have hu := mul_kinv h2y
  rw [e0, padd_tangent hon hu]
  generalize kinv (2 * y) = u at *
  have hz4 : Z * Z * (Z * Z) ≠ 0 := fun h => (mul_zero' h).elim (fun h => (mul_zero' h).elim hz hz) (fun h => (mul_zero' h).elim hz hz)
  have eZ : 2 * (Y * Z) = (2 * y) * (Z * Z * (Z * Z)) := by rw [hY]; grind -lia -linarith
  refine jk_is (by rw [eZ]; exact fun h => (mul_zero' h).elim h2y hz4) ?_ ?_
  · rw [eZ]; subst hx he hd hbb hb ha hX hY; clear e0 h hon hz4 h2y hy eZ hz
    grind -lia -linarith
  · rw [eZ]; subst hx he hd hbb hb ha hX hY; clear e0 h hon hz4 h2y hy eZ hz
    grind -lia -linarith
theorem jk_plus {X1 Y1 Z1 X2 Y2 Z2 : K} (hp : onC (jk X1 Y1 Z1)) (hq : onC (jk X2 Y2 Z2)) (hz1 : Z1 ≠ 0) (hz2 : Z2 ≠ 0) (u1 u2 s1 s2 h r hh hhh v x : K) (e1 : u1 = X1 * (Z2 * Z2)) (e2 : u2 = X2 * (Z1 * Z1)) (e3 : s1 = Y1 * (Z2 * Z2 * Z2)) (e4 : s2 = Y2 * (Z1 * Z1 * Z1))
    (eh : h = u2 - u1) (er : r = s2 - s1) (hn : h ≠ 0) (ehh : hh = h * h) (ehhh : hhh = hh * h) (ev : v = u1 * hh) (ex : x = r * r - (hhh + (v + v))) :
    jk x (r * (v - x) - s1 * hhh) (h * (Z1 * Z2)) = padd (jk X1 Y1 Z1) (jk X2 Y2 Z2) := by
  obtain ⟨x1, y1, f1, o1, hX1, hY1⟩ := jk_form hz1 hp
  obtain ⟨x2, y2, f2, o2, hX2, hY2⟩ := jk_form hz2 hq
  have hzz : Z1 * Z2 ≠ 0 := fun h => (mul_zero' h).elim hz1 hz2
  have ehd : h = (x2 - x1) * ((Z1 * Z2) * (Z1 * Z2)) := by rw [eh, e1, e2, hX1, hX2]; grind -lia -linarith
  have erd : r = (y2 - y1) * ((Z1 * Z2) * (Z1 * Z2) * (Z1 * Z2)) := by rw [er, e3, e4, hY1, hY2]; grind -lia -linarith
  have eu : u1 = x1 * ((Z1 * Z2) * (Z1 * Z2)) := by rw [e1, hX1]; grind -lia -linarith
  have es : s1 = y1 * ((Z1 * Z2) * (Z1 * Z2) * (Z1 * Z2)) := by rw [e3, hY1]; grind -lia -linarith
  have hd0 : x2 - x1 ≠ 0 := fun hh => hn (by rw [ehd, hh]; grind -lia -linarith)
  have hu := mul_kinv hd0
  rw [f1, f2, padd_chord o1 o2 hu]
  generalize kinv (x2 - x1) = u at *
  refine jk_is (fun hh => (mul_zero' hh).elim hn hzz) ?_ ?_
  · subst ex ev ehhh ehh
    rw [erd, eu, ehd]
    clear e1 e2 e3 e4 eh er hn erd eu es ehd hX1 hX2 hY1 hY2 f1 f2 o1 o2 hp hq hz1 hz2 hd0
    generalize Z1 * Z2 = z at *
    generalize hdd : x2 - x1 = d at *
    have hx2 : x2 = x1 + d := by rw [← hdd]; grind -lia -linarith
    subst hx2; clear hdd
    generalize y2 - y1 = n at *
    grind -lia -linarith
  · subst ex ev ehhh ehh
    rw [erd, eu, ehd, es]
    clear e1 e2 e3 e4 eh er hn erd eu es ehd hX1 hX2 hY1 hY2 f1 f2 o1 o2 hp hq hz1 hz2 hd0
    generalize Z1 * Z2 = z at *
    generalize hdd : x2 - x1 = d at *
    have hx2 : x2 = x1 + d := by rw [← hdd]; grind -lia -linarith
    subst hx2; clear hdd
    generalize y2 - y1 = n at *
    grind -lia -linarith
/-- equal first coordinates -/
theorem jk_same {X1 Y1 Z1 X2 Y2 Z2 : K} (hp : onC (jk X1 Y1 Z1)) (hq : onC (jk X2 Y2 Z2)) (hz1 : Z1 ≠ 0) (hz2 : Z2 ≠ 0) (h : X2 * (Z1 * Z1) - X1 * (Z2 * Z2) = 0) :
    (Y2 * (Z1 * Z1 * Z1) - Y1 * (Z2 * Z2 * Z2) = 0 → jk X2 Y2 Z2 = jk X1 Y1 Z1) ∧ (Y2 * (Z1 * Z1 * Z1) - Y1 * (Z2 * Z2 * Z2) ≠ 0 → padd (jk X1 Y1 Z1) (jk X2 Y2 Z2) = .O) := by
  obtain ⟨x1, y1, f1, o1, hX1, hY1⟩ := jk_form hz1 hp
  obtain ⟨x2, y2, f2, o2, hX2, hY2⟩ := jk_form hz2 hq
  have hzz : Z1 * Z2 ≠ 0 := fun h => (mul_zero' h).elim hz1 hz2
  have hx : x2 = x1 := by
    refine cancelK hzz (cancelK hzz ?_)
    rw [hX1, hX2] at h; grind -lia -linarith
  subst hx
  have hyy : (y2 - y1) * (y2 + y1) = 0 := by grind -lia -linarith
  refine ⟨fun hy => ?_, fun hy => ?_⟩
  · have : y2 = y1 := by
      refine cancelK hzz (cancelK hzz (cancelK hzz ?_))
      rw [hY1, hY2] at hy; grind -lia -linarith
    rw [f1, f2, this]
  · rcases mul_zero' hyy with h1 | h1
    · exfalso
      refine hy ?_
      have e : y2 = y1 := by grind -lia -linarith
      rw [hY1, hY2, e]; grind -lia -linarith
    · have e : y2 = -y1 := by grind -lia -linarith
      rw [f1, f2, e]
      exact padd_neg (p := .A x2 y1)
/-- so many times a point -/
def pmul : Nat → Pt → Pt
  | 0, _ => .O
  | n + 1, p => padd (pmul n p) p
theorem pmul_on {p : Pt} (hp : onC p) : ∀ n, onC (pmul n p)
  | 0 => trivial
  | n + 1 => padd_on (pmul_on hp n) hp
theorem pmul_add {p : Pt} (hp : onC p) (m : Nat) : ∀ n, pmul (m + n) p = padd (pmul m p) (pmul n p)
  | 0 => (padd_zero _).symm
  | n + 1 => by
    show padd (pmul (m + n) p) p = padd (pmul m p) (padd (pmul n p) p)
    rw [pmul_add hp m n, padd_assoc (pmul_on hp m) (pmul_on hp n) hp]
theorem pmul_mul {p : Pt} (hp : onC p) (m : Nat) : ∀ n, pmul (m * n) p = pmul n (pmul m p)
  | 0 => rfl
  | n + 1 => by
    rw [Nat.mul_succ, pmul_add hp, pmul_mul hp m n]; rfl
theorem pmul_O : ∀ n, pmul n .O = .O
  | 0 => rfl
  | n + 1 => by rw [pmul, pmul_O n]; rfl
theorem pmul_dist {p q : Pt} (hp : onC p) (hq : onC q) : ∀ n, pmul n (padd p q) = padd (pmul n p) (pmul n q)
  | 0 => rfl
  | n + 1 => by
    have h1 := pmul_on hp n
    have h2 := pmul_on hq n
    simp only [pmul]
    rw [pmul_dist hp hq n, padd_assoc h1 h2 (padd_on hp hq), padd_assoc h1 hp (padd_on h2 hq), ← padd_assoc h2 hp hq, padd_comm (pmul n q) p, padd_assoc hp h2 hq]
end Mvq

/- The reference's sums (X / Z, Y / Z); numbers as members of the field; sums of multiples, digit by digit. -/
namespace Mvq
theorem pP_fP : Mvp.pP = fP := by decide
theorem kc_addn (a b : Nat) : kc (a + b) = kc a + kc b := by rw [← kc_add, kc_mod]
theorem kc_subn (a b : Nat) : kc (a + (fP - b % fP)) = kc a - kc b := by
  have h : kc (a + (fP - b % fP)) + kc b = kc a := by
    rw [← kc_addn]
    apply Fin.ext
    simp only [kc, Fin.ofNat]
    have h1 := Nat.div_add_mod b fP
    have h2 : b % fP < fP := Nat.mod_lt _ (by decide)
    rw [show a + (fP - b % fP) + b = a + fP * (b / fP + 1) by rw [Nat.mul_add]; omega, Nat.add_mul_mod_self_left]
  rw [← h]; generalize kc b = u; generalize kc (a + (fP - b % fP)) = v; grind -lia -linarith
theorem kc_negn (b : Nat) : kc (fP - b % fP) = - kc b := by
  have h := kc_subn 0 b
  rw [Nat.zero_add] at h
  have h0 : kc 0 = 0 := by decide
  rw [h, h0]; generalize kc b = u; grind -lia -linarith
theorem kc_eqz (a : Nat) : (a % fP == 0) = decide (kc a = 0) := by
  rw [Bool.eq_iff_iff]
  simp only [beq_iff_eq, decide_eq_true_eq]
  constructor
  · intro h
    apply Fin.ext
    simp only [kc, Fin.ofNat]
    exact h
  · intro h
    have := congrArg Fin.val h
    exact this
theorem kc_eq (a b : Nat) : (a % fP == b % fP) = decide (kc a = kc b) := by
  rw [Bool.eq_iff_iff]
  simp only [beq_iff_eq, decide_eq_true_eq]
  constructor
  · intro h
    apply Fin.ext
    simp only [kc, Fin.ofNat]
    exact h
  · intro h
    have := congrArg Fin.val h
    simpa only [kc, Fin.ofNat] using this
/-- sums of multiples -/
def psum : List (Nat × Pt) → Pt
  | [] => .O
  | (n, p) :: l => padd (pmul n p) (psum l)
theorem psum_on : ∀ (l : List (Nat × Pt)), (∀ t ∈ l, onC t.2) → onC (psum l)
  | [], _ => trivial
  | (n, p) :: l, h => padd_on (pmul_on (h (n, p) (by simp)) n) (psum_on l fun t ht => h t (List.mem_cons_of_mem _ ht))
/-- each number's leading digits, in sixteens -/
def lead (k : Nat) (l : List (Nat × Pt)) : List (Nat × Pt) := l.map fun t => (t.1 / 16 ^ k, t.2)
def dig (k n : Nat) : Nat := n / 16 ^ k % 16
theorem lead_next (k : Nat) : ∀ (l : List (Nat × Pt)), (∀ t ∈ l, onC t.2) → psum (lead k l) = padd (pmul 16 (psum (lead (k + 1) l))) (psum (l.map fun t => (dig k t.1, t.2)))
  | [], _ => (by rw [show psum (lead (k + 1) []) = .O from rfl, pmul_O]; rfl)
  | (n, p) :: l, h => by
    have hl : ∀ t ∈ l, onC t.2 := fun t ht => h t (List.mem_cons_of_mem _ ht)
    have hp : onC p := h (n, p) (by simp)
    have ih := lead_next k l hl
    have hL : onC (psum (lead (k + 1) l)) := psum_on _ fun t ht => by
      obtain ⟨u, hu, rfl⟩ := List.mem_map.1 ht; exact hl u hu
    have hD : onC (psum (l.map fun t => (dig k t.1, t.2))) := psum_on _ fun t ht => by
      obtain ⟨u, hu, rfl⟩ := List.mem_map.1 ht; exact hl u hu
    show padd (pmul (n / 16 ^ k) p) (psum (lead k l)) = padd (pmul 16 (padd (pmul (n / 16 ^ (k + 1)) p) (psum (lead (k + 1) l)))) (padd (pmul (dig k n) p) (psum (l.map fun t => (dig k t.1, t.2))))
    have e : n / 16 ^ k = n / 16 ^ (k + 1) * 16 + dig k n := by
      unfold dig; rw [Nat.pow_succ, ← Nat.div_div_eq_div_mul]; omega
    rw [ih, e, pmul_add hp, pmul_mul hp, pmul_dist (pmul_on hp _) hL]
    generalize hA : pmul 16 (pmul (n / 16 ^ (k + 1)) p) = a
    generalize hB : pmul (dig k n) p = b
    generalize hC : pmul 16 (psum (lead (k + 1) l)) = c
    generalize hDD : psum (l.map fun t => (dig k t.1, t.2)) = d at *
    have ha : onC a := by rw [← hA]; exact pmul_on (pmul_on hp _) _
    have hb : onC b := by rw [← hB]; exact pmul_on hp _
    have hc : onC c := by rw [← hC]; exact pmul_on hL _
    rw [padd_assoc ha hb (padd_on hc hD), padd_assoc ha hc (padd_on hb hD), ← padd_assoc hb hc hD, ← padd_assoc hc hb hD, padd_comm b c]
/-- twice, four times -/
theorem pmul_16 {p : Pt} (hp : onC p) : pmul 16 p = padd (padd (padd (padd p p) (padd p p)) (padd (padd p p) (padd p p))) (padd (padd (padd p p) (padd p p)) (padd (padd p p) (padd p p))) := by
  have h2 : ∀ q, padd q q = pmul 2 q := fun q => by show _ = padd (padd .O q) q; rfl
  have e2 : padd p p = pmul 2 p := h2 p
  have e4 : padd (pmul 2 p) (pmul 2 p) = pmul 4 p := (pmul_add hp 2 2).symm
  have e8 : padd (pmul 4 p) (pmul 4 p) = pmul 8 p := (pmul_add hp 4 4).symm
  have e16 : padd (pmul 8 p) (pmul 8 p) = pmul 16 p := (pmul_add hp 8 8).symm
  rw [e2, e4, e8, e16]
end Mvq

/- A program's point: what it stands for; its double as the group's. -/
namespace Mvq
open Mvp
/-- the point that three numbers stand for -/
def jN (x y z : Nat) : Pt := jk (kc x) (kc y) (kc z)
theorem kc_sub' (M : Nat) (hM : M = fP) (a b : Nat) : kc (a + (M - b % M)) = kc a - kc b := by subst hM; exact kc_subn a b
theorem z_is (M : Nat) (hM : M = fP) (z : Nat) (b : Bool) (h : (z % M == 0) = b) : decide (kc z = 0) = b := by subst hM; rw [← kc_eqz]; exact h
theorem mP_fP : mP.M = fP := pP_fP
end Mvq
namespace Go.Proofs.YtemcankmggmgoaaDoor
open Go.RowKit Go.Mv Mvp Mvq
/-- double: of any point of the curve -/
theorem double_is (x y z : Nat) (ho : onC (jN x y z)) :
    ∃ X Y Z, jN X Y Z = padd (jN x y z) (jN x y z) ∧ ∀ gc gp bx by_ wx, Has wx gc (crvL mP gp bx by_) 57 → Has wx gp (mdL mP) 72 → Calls Tryd.prog 55 #[.pointer (some ⟨gc, 0, none⟩), ptV mP x y z] wx fun e w' => e = .returned (ptV mP X Y Z) ∧ Fr Nob wx w' := by
  cases hb : (z % mP.M == 0)
  · have hz : kc z ≠ 0 := by
      have := z_is _ mP_fP z _ hb
      simpa using this
    refine ⟨_, _, _, ?_, fun gc gp bx by_ wx hcv hpm => double_v mP gc gp bx by_ wx mP_ok hcv hpm x y z hb _ _ _ _ _ _ _ _ _ _ _ _ _ _ _ _ _ _ _ _ _ rfl rfl rfl rfl rfl rfl rfl rfl rfl rfl rfl rfl rfl rfl rfl rfl rfl rfl rfl rfl rfl⟩
    have h := jk_double ho hz _ _ _ _ _ _ rfl rfl rfl rfl rfl rfl
    unfold jN at *
    rw [← h]
    simp only [kc_sub' _ mP_fP, kc_addn, kc_mul']
    generalize kc x = a; generalize kc y = b; generalize kc z = c
    congr 1
    · grind -lia -linarith
    · grind -lia -linarith
    · grind -lia -linarith
  · have hz : kc z = 0 := by
      have := z_is _ mP_fP z _ hb
      simpa using this
    refine ⟨x, y, z, ?_, fun gc gp bx by_ wx hcv hpm => double_none mP gc gp bx by_ wx mP_ok hcv hpm x y z hb⟩
    unfold jN
    rw [jk_z hz]; rfl
end Go.Proofs.YtemcankmggmgoaaDoor

/- group: nothing, plus. -/
namespace Go.Proofs.YtemcankmggmgoaaDoor
open Go.RowKit Go.Mv Mvp
attribute [local irreducible] limbs lw mix cw cSub cAdd cMul beN laid be32 montT mstep elN mdL numB
set_option maxHeartbeats 16000000 in
set_option maxRecDepth 1000000 in
theorem nothing_any (m : Md) (gc gp bx by_ : Nat) (w : World) (hok : m.Ok) (hcv : Has w gc (crvL m gp bx by_) 57) (hpm : Has w gp (mdL m) 72) :
    Calls Tryd.prog 51 #[.pointer (some ⟨gc, 0, none⟩)] w fun e w' => e = .returned (ptV m 1 1 0) ∧ Fr Nob w w' := by
  have HOK := Lib.hid hok
  have HCV := Lib.hid hcv
  have HPM := Lib.hid hpm
  clear hok hcv hpm
  have st0 := St.start Nob w
  go_enter Tryd.func51, Tryd.ntmps51
  go_wp2_with (with_reducible refine wl_stop (o := ⟨some 2, _, _, _, _, _⟩) ?_)
  refine wl_allocS st0 rfl rfl (z := .agg #[.int .u64 0, .int .u64 0, .int .u64 0, .int .u64 0, .int .u64 0, .int .u64 0, .int .u64 0, .int .u64 0, .int .u64 0, .int .u64 0, .int .u64 0, .int .u64 0]) (by kernel_rfl) (cw 12 0) (by rw [cw_zero]; rfl) ?_
  intro g2 w1 st1
  clear st0
  go_wp2_with fail
  refine wp_region_noPanic ?_
  refine wp_region_lad st1 11 [.w 0, .w 1, .w 2, .t 3, .w 5, .w 6, .w 7, .t 8, .c 4, .c 9, .w 10] (.m 11 .nil) (by kernel_rfl) (by kernel_rfl) (fun _ _ _ _ _ h => h) ?_
  clear st1
  iterate 3 (refine lad_w (v := ?_) rfl rfl (fun xq wx => ?_) ?_; rotate_left 1; · (go_simp; with_reducible rfl); try simp only [Go.Mv.clL])
  refine lad_t (v := ?_) rfl rfl (fun xq wx hS => ?_) ?_
  rotate_left 1
  · (have hc := (HCV.out.keep (St.fr hS) id).cell (i := 0) rfl; clear hS; go_simp; with_reducible rfl)
  try simp only [Go.Mv.clL]
  iterate 3 (refine lad_w (v := ?_) rfl rfl (fun xq wx => ?_) ?_; rotate_left 1; · (go_simp; with_reducible rfl); try simp only [Go.Mv.clL])
  refine lad_t (v := ?_) rfl rfl (fun xq wx hS => ?_) ?_
  rotate_left 1
  · (have hc := (HCV.out.keep (St.fr hS) id).cell (i := 0) rfl; clear hS; go_simp; with_reducible rfl)
  try simp only [Go.Mv.clL]
  refine lad_call rfl rfl rfl Tryd.call33 (fun w hS hR => MOne_any m gp _ HOK.out (HPM.out.keep hS.fr id)) (fun _ => rfl) ?_
  try simp only [Go.Mv.clL]
  refine lad_call rfl rfl rfl Tryd.call33 (fun w hS hR => MOne_any m gp _ HOK.out (HPM.out.keep hS.fr id)) (fun _ => rfl) ?_
  try simp only [Go.Mv.clL]
  refine lad_w rfl rfl (fun _ => exec_build rfl _ (built_pt2 _ _)) ?_
  try simp only [Go.Mv.clL]
  refine lad_end fun xq w2 st2 hR => ?_
  try dsimp only
  clear hR xq
  refine plan_m rfl rfl ?_
  refine wp_storeS st2 0 rfl rfl rfl rfl (by simp [cw_len]) (by kernel_rfl) (pt_one _ _ _) ?_
  intro w3 st3
  try simp only [List.nil_append, List.set_cons_zero] at st3
  clear st2
  try simp only [Act.put]
  refine plan_end ?_
  refine NoPanic.normal ?_
  have hr := st3.at 0 rfl
  have hfr := st3.fr
  clear st3
  go_wp2_with fail
  exact bodyPost_ret (results_st rfl rfl hr Tryd.underlying49 rfl (by kernel_rfl)) rfl ⟨by unfold ptV ptL; rw [el_zero], hfr⟩

theorem nothing_u (m : Md) (gc gp bx by_ : Nat) (w : World) (hok : m.Ok) (hcv : Has w gc (crvL m gp bx by_) 57) (hpm : Has w gp (mdL m) 72) :
    Calls Tryd.prog 51 #[.pointer (some ⟨gc, 0, none⟩)] w fun e w' => e = .returned (.agg (cw 4 (elN m 1) ++ (cw 4 (elN m 1) ++ cw 4 (elN m 0))).toArray) ∧ Fr Nob w w' := nothing_any m gc gp bx by_ w hok hcv hpm

set_option maxHeartbeats 16000000 in
set_option maxRecDepth 1000000 in
theorem plus_none1 (m : Md) (gc gp bx by_ : Nat) (w : World) (hok : m.Ok) (hcv : Has w gc (crvL m gp bx by_) 57) (hpm : Has w gp (mdL m) 72) (x1 y1 z1 x2 y2 z2 : Nat) (hb1 : (z1 % m.M == 0) = true) :
    Calls Tryd.prog 56 #[.pointer (some ⟨gc, 0, none⟩), ptV m x1 y1 z1, ptV m x2 y2 z2] w fun e w' => e = .returned (ptV m x2 y2 z2) ∧ Fr Nob w w' := by
  have HOK := Lib.hid hok
  have HCV := Lib.hid hcv
  have HPM := Lib.hid hpm
  clear hok hcv hpm
  have HB1 := Lib.hid hb1
  clear hb1
  unfold ptV ptL
  have st0 := St.start Nob w
  go_enter Tryd.func56, Tryd.ntmps56
  go_wp2_with (with_reducible refine wl_stop (o := ⟨some 4, _, _, _, _, _⟩) ?_)
  refine wl_boxS st0 rfl rfl rfl (cw 4 (elN m x1) ++ (cw 4 (elN m y1) ++ cw 4 (elN m z1))) rfl ?_
  intro g4 w1 st1
  clear st0
  go_wp2_with (with_reducible refine wl_stop (o := ⟨some 5, _, _, _, _, _⟩) ?_)
  refine wl_boxS st1 rfl rfl rfl (cw 4 (elN m x2) ++ (cw 4 (elN m y2) ++ cw 4 (elN m z2))) rfl ?_
  intro g5 w2 st2
  clear st1
  go_wp2_with (with_reducible refine wl_stop (o := ⟨some 6, _, _, _, _, _⟩) ?_)
  refine wl_allocS st2 rfl rfl (z := .agg #[.int .u64 0, .int .u64 0, .int .u64 0, .int .u64 0, .int .u64 0, .int .u64 0, .int .u64 0, .int .u64 0, .int .u64 0, .int .u64 0, .int .u64 0, .int .u64 0]) (by kernel_rfl) (cw 12 0) (by rw [cw_zero]; rfl) ?_
  intro g6 w3 st3
  clear st2
  go_wp2_with (with_reducible refine wl_stop (o := ⟨some 20, _, _, _, _, _⟩) ?_)
  refine wl_loadSt st3 0 rfl rfl rfl Tryd.underlying49 rfl rfl (by kernel_rfl) ?_
  go_wp2_with fail
  refine (none_any m HOK.out x1 y1 z1 true HB1.out _).mono ?_
  rintro e' w4 ⟨rfl, hf4⟩
  have st4 := st3.keep hf4
  clear st3 hf4
  go_wp2_with (with_reducible refine wl_stop (o := ⟨some 22, _, _, _, _, _⟩) ?_)
  refine wl_loadSt st4 1 rfl rfl rfl Tryd.underlying49 rfl rfl (by kernel_rfl) ?_
  go_wp2_with (with_reducible refine wl_stop (o := ⟨none, _, _, _, _, _⟩) ?_)
  refine wl_storeS st4 2 rfl rfl rfl rfl rfl (by simp [cw_len]) (by kernel_rfl) (pt_one _ _ _) ?_
  intro w5 st5
  clear st4
  have hr := st5.at 2 rfl
  have hfr := st5.fr
  clear st5
  go_wp2_with fail
  exact bodyPost_ret (results_st rfl rfl hr Tryd.underlying49 rfl (by kernel_rfl)) rfl ⟨rfl, hfr⟩

set_option maxHeartbeats 16000000 in
set_option maxRecDepth 1000000 in
theorem plus_none2 (m : Md) (gc gp bx by_ : Nat) (w : World) (hok : m.Ok) (hcv : Has w gc (crvL m gp bx by_) 57) (hpm : Has w gp (mdL m) 72) (x1 y1 z1 x2 y2 z2 : Nat) (hb1 : (z1 % m.M == 0) = false) (hb2 : (z2 % m.M == 0) = true) :
    Calls Tryd.prog 56 #[.pointer (some ⟨gc, 0, none⟩), ptV m x1 y1 z1, ptV m x2 y2 z2] w fun e w' => e = .returned (ptV m x1 y1 z1) ∧ Fr Nob w w' := by
  have HOK := Lib.hid hok
  have HCV := Lib.hid hcv
  have HPM := Lib.hid hpm
  clear hok hcv hpm
  have HB1 := Lib.hid hb1
  have HB2 := Lib.hid hb2
  clear hb1 hb2
  unfold ptV ptL
  have st0 := St.start Nob w
  go_enter Tryd.func56, Tryd.ntmps56
  go_wp2_with (with_reducible refine wl_stop (o := ⟨some 4, _, _, _, _, _⟩) ?_)
  refine wl_boxS st0 rfl rfl rfl (cw 4 (elN m x1) ++ (cw 4 (elN m y1) ++ cw 4 (elN m z1))) rfl ?_
  intro g4 w1 st1
  clear st0
  go_wp2_with (with_reducible refine wl_stop (o := ⟨some 5, _, _, _, _, _⟩) ?_)
  refine wl_boxS st1 rfl rfl rfl (cw 4 (elN m x2) ++ (cw 4 (elN m y2) ++ cw 4 (elN m z2))) rfl ?_
  intro g5 w2 st2
  clear st1
  go_wp2_with (with_reducible refine wl_stop (o := ⟨some 6, _, _, _, _, _⟩) ?_)
  refine wl_allocS st2 rfl rfl (z := .agg #[.int .u64 0, .int .u64 0, .int .u64 0, .int .u64 0, .int .u64 0, .int .u64 0, .int .u64 0, .int .u64 0, .int .u64 0, .int .u64 0, .int .u64 0, .int .u64 0]) (by kernel_rfl) (cw 12 0) (by rw [cw_zero]; rfl) ?_
  intro g6 w3 st3
  clear st2
  go_wp2_with (with_reducible refine wl_stop (o := ⟨some 20, _, _, _, _, _⟩) ?_)
  refine wl_loadSt st3 0 rfl rfl rfl Tryd.underlying49 rfl rfl (by kernel_rfl) ?_
  go_wp2_with fail
  refine (none_any m HOK.out x1 y1 z1 false HB1.out _).mono ?_
  rintro e' w4 ⟨rfl, hf4⟩
  have st4 := st3.keep hf4
  clear st3 hf4
  go_wp2_with (with_reducible refine wl_stop (o := ⟨some 24, _, _, _, _, _⟩) ?_)
  refine wl_loadSt st4 1 rfl rfl rfl Tryd.underlying49 rfl rfl (by kernel_rfl) ?_
  go_wp2_with fail
  refine (none_any m HOK.out x2 y2 z2 true HB2.out _).mono ?_
  rintro e' w5 ⟨rfl, hf5⟩
  have st5 := st4.keep hf5
  clear st4 hf5
  go_wp2_with (with_reducible refine wl_stop (o := ⟨some 26, _, _, _, _, _⟩) ?_)
  refine wl_loadSt st5 0 rfl rfl rfl Tryd.underlying49 rfl rfl (by kernel_rfl) ?_
  go_wp2_with (with_reducible refine wl_stop (o := ⟨none, _, _, _, _, _⟩) ?_)
  refine wl_storeS st5 2 rfl rfl rfl rfl rfl (by simp [cw_len]) (by kernel_rfl) (pt_one _ _ _) ?_
  intro w6 st6
  clear st5
  have hr := st6.at 2 rfl
  have hfr := st6.fr
  clear st6
  go_wp2_with fail
  exact bodyPost_ret (results_st rfl rfl hr Tryd.underlying49 rfl (by kernel_rfl)) rfl ⟨rfl, hfr⟩
end Go.Proofs.YtemcankmggmgoaaDoor

/- group: plus, of two points that are not nothing. -/
namespace Go.Proofs.YtemcankmggmgoaaDoor
open Go.RowKit Go.Mv Mvp
attribute [local irreducible] limbs lw mix cw cSub cAdd cMul beN laid be32 montT mstep elN mdL numB
/-- what plus answers of two points that are not nothing -/
def plusV (b c : Bool) (u v x : Value) : Value := match b, c with
  | false, _ => x
  | true, false => v
  | true, true => u

set_option maxHeartbeats 16000000 in
set_option maxRecDepth 1000000 in
theorem gplus_any (m : Md) (gc gp bx by_ : Nat) (w : World) (hok : m.Ok) (hcv : Has w gc (crvL m gp bx by_) 57) (hpm : Has w gp (mdL m) 72) (x1 y1 z1 x2 y2 z2 : Nat) (hb1 : (z1 % m.M == 0) = false) (hb2 : (z2 % m.M == 0) = false) (pp qq u1 u2 q3 s1 p3 s2 hd rr hh h3 v r2 v2 t1 X t2 t3 t4 Y zz Z DX DY DZ : Nat) (epp : z1 * z1 = pp) (eqq : z2 * z2 = qq) (eu1 : x1 * qq = u1) (eu2 : x2 * pp = u2) (eq3 : qq * z2 = q3) (es1 : y1 * q3 = s1) (ep3 : pp * z1 = p3) (es2 : y2 * p3 = s2) (ehd : u2 + (m.M - u1 % m.M) = hd) (err : s2 + (m.M - s1 % m.M) = rr) (ehh : hd * hd = hh) (eh3 : hh * hd = h3) (ev : u1 * hh = v) (er2 : rr * rr = r2) (ev2 : v + v = v2) (et1 : h3 + v2 = t1) (eX : r2 + (m.M - t1 % m.M) = X) (et2 : v + (m.M - X % m.M) = t2) (et3 : rr * t2 = t3) (et4 : s1 * h3 = t4) (eY : t3 + (m.M - t4 % m.M) = Y) (ezz : z1 * z2 = zz) (eZ : hd * zz = Z) (hd0 : ((hd % m.M == 0) = true → (rr % m.M == 0) = true → ∀ wx, Fr Nob w wx → Calls Tryd.prog 55 #[.pointer (some ⟨gc, 0, none⟩), ptV m x1 y1 z1] wx fun e w' => e = .returned (ptV m DX DY DZ) ∧ Fr Nob wx w')) :
    Calls Tryd.prog 56 #[.pointer (some ⟨gc, 0, none⟩), ptV m x1 y1 z1, ptV m x2 y2 z2] w fun e w' => e = .returned (plusV (hd % m.M == 0) (rr % m.M == 0) (ptV m DX DY DZ) (ptV m 1 1 0) (ptV m X Y Z)) ∧ Fr Nob w w' := by
  have HOK := Lib.hid hok
  have HCV := Lib.hid hcv
  have HPM := Lib.hid hpm
  clear hok hcv hpm
  have HB1 := Lib.hid hb1
  have HB2 := Lib.hid hb2
  have Hpp := Lib.hid epp
  have Hqq := Lib.hid eqq
  have Hu1 := Lib.hid eu1
  have Hu2 := Lib.hid eu2
  have Hq3 := Lib.hid eq3
  have Hs1 := Lib.hid es1
  have Hp3 := Lib.hid ep3
  have Hs2 := Lib.hid es2
  have Hhd := Lib.hid ehd
  have Hrr := Lib.hid err
  have Hhh := Lib.hid ehh
  have Hh3 := Lib.hid eh3
  have Hv := Lib.hid ev
  have Hr2 := Lib.hid er2
  have Hv2 := Lib.hid ev2
  have Ht1 := Lib.hid et1
  have HX := Lib.hid eX
  have Ht2 := Lib.hid et2
  have Ht3 := Lib.hid et3
  have Ht4 := Lib.hid et4
  have HY := Lib.hid eY
  have Hzz := Lib.hid ezz
  have HZ := Lib.hid eZ
  have HD0 := Lib.hid hd0
  clear hd0 hb1 hb2 epp eqq eu1 eu2 eq3 es1 ep3 es2 ehd err ehh eh3 ev er2 ev2 et1 eX et2 et3 et4 eY ezz eZ
  unfold ptV ptL
  have st0 := St.start Nob w
  go_enter Tryd.func56, Tryd.ntmps56
  go_wp2_with (with_reducible refine wl_stop (o := ⟨some 4, _, _, _, _, _⟩) ?_)
  refine wl_boxS st0 rfl rfl rfl (cw 4 (elN m x1) ++ (cw 4 (elN m y1) ++ cw 4 (elN m z1))) rfl ?_
  intro g4 w1 st1
  clear st0
  go_wp2_with (with_reducible refine wl_stop (o := ⟨some 5, _, _, _, _, _⟩) ?_)
  refine wl_boxS st1 rfl rfl rfl (cw 4 (elN m x2) ++ (cw 4 (elN m y2) ++ cw 4 (elN m z2))) rfl ?_
  intro g5 w2 st2
  clear st1
  go_wp2_with (with_reducible refine wl_stop (o := ⟨some 6, _, _, _, _, _⟩) ?_)
  refine wl_allocS st2 rfl rfl (z := .agg #[.int .u64 0, .int .u64 0, .int .u64 0, .int .u64 0, .int .u64 0, .int .u64 0, .int .u64 0, .int .u64 0, .int .u64 0, .int .u64 0, .int .u64 0, .int .u64 0]) (by kernel_rfl) (cw 12 0) (by rw [cw_zero]; rfl) ?_
  intro g6 w3 st3
  clear st2
  go_wp2_with (with_reducible refine wl_stop (o := ⟨some 20, _, _, _, _, _⟩) ?_)
  refine wl_loadSt st3 0 rfl rfl rfl Tryd.underlying49 rfl rfl (by kernel_rfl) ?_
  go_wp2_with fail
  refine (none_any m HOK.out x1 y1 z1 false HB1.out _).mono ?_
  rintro e' w4 ⟨rfl, hf4⟩
  have st4 := st3.keep hf4
  clear st3 hf4
  go_wp2_with (with_reducible refine wl_stop (o := ⟨some 24, _, _, _, _, _⟩) ?_)
  refine wl_loadSt st4 1 rfl rfl rfl Tryd.underlying49 rfl rfl (by kernel_rfl) ?_
  go_wp2_with fail
  refine (none_any m HOK.out x2 y2 z2 false HB2.out _).mono ?_
  rintro e' w5 ⟨rfl, hf5⟩
  have st5 := st4.keep hf5
  clear st4 hf5
  go_wp2_with fail
  refine wp_region_noPanic ?_
  refine wp_region_lad st5 17 [.o 14, .o 15, .w 0, .w 1, .w 2, .t 3, .w 4, .t 5, .w 7, .w 8, .w 9, .t 10, .w 11, .t 12, .c 6, .c 13, .j 14, .j 15] (.r 16 (.m 17 .nil)) (by kernel_rfl) (by kernel_rfl) (fun _ _ _ _ _ h => h) ?_
  clear st5
  refine lad_o rfl rfl rfl z_ge (cw 4 0) rfl ?_
  try simp only [Go.Mv.clL]
  refine lad_o rfl rfl rfl z_ge (cw 4 0) rfl ?_
  try simp only [Go.Mv.clL]
  refine lad_w (v := ?_) rfl rfl (fun xq wx => ?_) ?_
  rotate_left 1
  · (go_simp; with_reducible rfl)
  try simp only [Go.Mv.clL]
  refine lad_w (v := ?_) rfl rfl (fun xq wx => ?_) ?_
  rotate_left 1
  · (go_simp; with_reducible rfl)
  try simp only [Go.Mv.clL]
  refine lad_w (v := ?_) rfl rfl (fun xq wx => ?_) ?_
  rotate_left 1
  · (go_simp; with_reducible rfl)
  try simp only [Go.Mv.clL]
  refine lad_t (v := ?_) rfl rfl (fun xq wx hS => ?_) ?_
  rotate_left 1
  · (have hc := (HCV.out.keep (St.fr hS) id).cell (i := 0) rfl; clear hS; go_simp; with_reducible rfl)
  try simp only [Go.Mv.clL]
  refine lad_w (v := ?_) rfl rfl (fun xq wx => ?_) ?_
  rotate_left 1
  · (go_simp; with_reducible rfl)
  try simp only [Go.Mv.clL]
  refine lad_arr rfl rfl rfl (fun _ => rfl) (cw 4 (elN m z1)) (fun wx hS => St.rangeL hS 0 rfl 8 _ (pt_z _ _ _)) Tryd.underlying47 rfl (by kernel_rfl) ?_
  try simp only [Go.Mv.clL]
  refine lad_w (v := ?_) rfl rfl (fun xq wx => ?_) ?_
  rotate_left 1
  · (go_simp; with_reducible rfl)
  try simp only [Go.Mv.clL]
  refine lad_w (v := ?_) rfl rfl (fun xq wx => ?_) ?_
  rotate_left 1
  · (go_simp; with_reducible rfl)
  try simp only [Go.Mv.clL]
  refine lad_w (v := ?_) rfl rfl (fun xq wx => ?_) ?_
  rotate_left 1
  · (go_simp; with_reducible rfl)
  try simp only [Go.Mv.clL]
  refine lad_t (v := ?_) rfl rfl (fun xq wx hS => ?_) ?_
  rotate_left 1
  · (have hc := (HCV.out.keep (St.fr hS) id).cell (i := 0) rfl; clear hS; go_simp; with_reducible rfl)
  try simp only [Go.Mv.clL]
  refine lad_w (v := ?_) rfl rfl (fun xq wx => ?_) ?_
  rotate_left 1
  · (go_simp; with_reducible rfl)
  try simp only [Go.Mv.clL]
  refine lad_arr rfl rfl rfl (fun _ => rfl) (cw 4 (elN m z2)) (fun wx hS => St.rangeL hS 1 rfl 8 _ (pt_z _ _ _)) Tryd.underlying47 rfl (by kernel_rfl) ?_
  try simp only [Go.Mv.clL]
  refine lad_call rfl rfl rfl Tryd.call38 (fun w hS hR => MSquare_v m gp _ HOK.out (HPM.out.keep hS.fr id) z1 pp Hpp.out) (fun _ => rfl) ?_
  try simp only [Go.Mv.clL]
  refine lad_call rfl rfl rfl Tryd.call38 (fun w hS hR => MSquare_v m gp _ HOK.out (HPM.out.keep hS.fr id) z2 qq Hqq.out) (fun _ => rfl) ?_
  try simp only [Go.Mv.clL]
  refine lad_j (List.mem_cons_of_mem _ List.mem_cons_self) fun g7 => ?_
  simp only [upd, reduceIte]
  try simp only [Nat.reduceEqDiff, reduceIte]
  refine lad_j List.mem_cons_self fun g8 => ?_
  simp only [upd, reduceIte]
  refine lad_end fun xq w6 st6 hR => ?_
  try dsimp only
  clear hR xq
  refine plan_r rfl rfl ?_
  refine wp_storeS st6 3 rfl rfl rfl rfl (by simp [cw_len]) (by kernel_rfl) (cw_one _ _) ?_
  intro w7 st7
  repeat (first | simp only [List.cons_append] at st7 | simp only [List.nil_append] at st7 | simp only [List.set_cons_succ] at st7 | simp only [List.set_cons_zero] at st7)
  clear st6
  refine ⟨by first | exact st7 | exact St.less st7 (by simp), ?_⟩
  try simp only [Act.put]
  refine plan_m rfl rfl ?_
  refine wp_storeS st7 4 rfl rfl rfl rfl (by simp [cw_len]) (by kernel_rfl) (cw_one _ _) ?_
  intro w8 st8
  try simp only [List.set_cons_zero, List.set_cons_succ] at st8
  clear st7
  try simp only [Act.put]
  refine plan_end ?_
  refine NoPanic.normal ?_
  go_wp2_with fail
  refine wp_region_noPanic ?_
  refine wp_region_lad st8 19 [.o 16, .o 17, .w 0, .w 1, .w 2, .t 3, .w 4, .t 5, .t 6, .w 8, .w 9, .w 10, .t 11, .w 12, .t 13, .t 14, .c 7, .c 15, .j 16, .j 17] (.r 18 (.m 19 .nil)) (by kernel_rfl) (by kernel_rfl) (fun _ _ _ _ _ h => h) ?_
  clear st8
  refine lad_o rfl rfl rfl z_ge (cw 4 0) rfl ?_
  try simp only [Go.Mv.clL]
  refine lad_o rfl rfl rfl z_ge (cw 4 0) rfl ?_
  try simp only [Go.Mv.clL]
  refine lad_w (v := ?_) rfl rfl (fun xq wx => ?_) ?_
  rotate_left 1
  · (go_simp; with_reducible rfl)
  try simp only [Go.Mv.clL]
  refine lad_w (v := ?_) rfl rfl (fun xq wx => ?_) ?_
  rotate_left 1
  · (go_simp; with_reducible rfl)
  try simp only [Go.Mv.clL]
  refine lad_w (v := ?_) rfl rfl (fun xq wx => ?_) ?_
  rotate_left 1
  · (go_simp; with_reducible rfl)
  try simp only [Go.Mv.clL]
  refine lad_t (v := ?_) rfl rfl (fun xq wx hS => ?_) ?_
  rotate_left 1
  · (have hc := (HCV.out.keep (St.fr hS) id).cell (i := 0) rfl; clear hS; go_simp; with_reducible rfl)
  try simp only [Go.Mv.clL]
  refine lad_w (v := ?_) rfl rfl (fun xq wx => ?_) ?_
  rotate_left 1
  · (go_simp; with_reducible rfl)
  try simp only [Go.Mv.clL]
  refine lad_arr rfl rfl rfl (fun _ => rfl) (cw 4 (elN m x1)) (fun wx hS => St.rangeL hS 0 rfl 0 _ (pt_x _ _ _)) Tryd.underlying47 rfl (by kernel_rfl) ?_
  try simp only [Go.Mv.clL]
  refine lad_arr rfl rfl rfl (fun _ => rfl) (cw 4 (elN m qq)) (fun wx hS => St.rangeL hS 4 rfl 0 _ (by rw [List.drop_zero, List.take_of_length_le (Nat.le_refl _)])) Tryd.underlying47 rfl (by kernel_rfl) ?_
  try simp only [Go.Mv.clL]
  refine lad_w (v := ?_) rfl rfl (fun xq wx => ?_) ?_
  rotate_left 1
  · (go_simp; with_reducible rfl)
  try simp only [Go.Mv.clL]
  refine lad_w (v := ?_) rfl rfl (fun xq wx => ?_) ?_
  rotate_left 1
  · (go_simp; with_reducible rfl)
  try simp only [Go.Mv.clL]
  refine lad_w (v := ?_) rfl rfl (fun xq wx => ?_) ?_
  rotate_left 1
  · (go_simp; with_reducible rfl)
  try simp only [Go.Mv.clL]
  refine lad_t (v := ?_) rfl rfl (fun xq wx hS => ?_) ?_
  rotate_left 1
  · (have hc := (HCV.out.keep (St.fr hS) id).cell (i := 0) rfl; clear hS; go_simp; with_reducible rfl)
  try simp only [Go.Mv.clL]
  refine lad_w (v := ?_) rfl rfl (fun xq wx => ?_) ?_
  rotate_left 1
  · (go_simp; with_reducible rfl)
  try simp only [Go.Mv.clL]
  refine lad_arr rfl rfl rfl (fun _ => rfl) (cw 4 (elN m x2)) (fun wx hS => St.rangeL hS 1 rfl 0 _ (pt_x _ _ _)) Tryd.underlying47 rfl (by kernel_rfl) ?_
  try simp only [Go.Mv.clL]
  refine lad_arr rfl rfl rfl (fun _ => rfl) (cw 4 (elN m pp)) (fun wx hS => St.rangeL hS 3 rfl 0 _ (by rw [List.drop_zero, List.take_of_length_le (Nat.le_refl _)])) Tryd.underlying47 rfl (by kernel_rfl) ?_
  try simp only [Go.Mv.clL]
  refine lad_call rfl rfl rfl Tryd.call40 (fun w hS hR => MMul_v m gp _ HOK.out (HPM.out.keep hS.fr id) x1 qq u1 Hu1.out) (fun _ => rfl) ?_
  try simp only [Go.Mv.clL]
  refine lad_call rfl rfl rfl Tryd.call40 (fun w hS hR => MMul_v m gp _ HOK.out (HPM.out.keep hS.fr id) x2 pp u2 Hu2.out) (fun _ => rfl) ?_
  try simp only [Go.Mv.clL]
  refine lad_j (List.mem_cons_of_mem _ List.mem_cons_self) fun g9 => ?_
  simp only [upd, reduceIte]
  try simp only [Nat.reduceEqDiff, reduceIte]
  refine lad_j List.mem_cons_self fun g10 => ?_
  simp only [upd, reduceIte]
  refine lad_end fun xq w9 st9 hR => ?_
  try dsimp only
  clear hR xq
  refine plan_r rfl rfl ?_
  refine wp_storeS st9 5 rfl rfl rfl rfl (by simp [cw_len]) (by kernel_rfl) (cw_one _ _) ?_
  intro w10 st10
  repeat (first | simp only [List.cons_append] at st10 | simp only [List.nil_append] at st10 | simp only [List.set_cons_succ] at st10 | simp only [List.set_cons_zero] at st10)
  clear st9
  refine ⟨by first | exact st10 | exact St.less st10 (by simp), ?_⟩
  try simp only [Act.put]
  refine plan_m rfl rfl ?_
  refine wp_storeS st10 6 rfl rfl rfl rfl (by simp [cw_len]) (by kernel_rfl) (cw_one _ _) ?_
  intro w11 st11
  try simp only [List.set_cons_zero, List.set_cons_succ] at st11
  clear st10
  try simp only [Act.put]
  refine plan_end ?_
  refine NoPanic.normal ?_
  go_wp2_with fail
  refine wp_region_noPanic ?_
  refine wp_region_lad st11 33 [.o 30, .o 31, .w 0, .w 1, .w 2, .t 3, .w 4, .t 5, .w 6, .w 7, .w 8, .t 9, .t 10, .w 11, .t 12, .w 15, .w 16, .w 17, .t 18, .w 19, .t 20, .w 21, .w 22, .w 23, .t 24, .t 25, .w 26, .t 27, .c 13, .c 14, .c 28, .c 29, .j 30, .j 31] (.r 32 (.m 33 .nil)) (by kernel_rfl) (by kernel_rfl) (fun _ _ _ _ _ h => h) ?_
  clear st11
  refine lad_o rfl rfl rfl z_ge (cw 4 0) rfl ?_
  try simp only [Go.Mv.clL]
  refine lad_o rfl rfl rfl z_ge (cw 4 0) rfl ?_
  try simp only [Go.Mv.clL]
  refine lad_w (v := ?_) rfl rfl (fun xq wx => ?_) ?_
  rotate_left 1
  · (go_simp; with_reducible rfl)
  try simp only [Go.Mv.clL]
  refine lad_w (v := ?_) rfl rfl (fun xq wx => ?_) ?_
  rotate_left 1
  · (go_simp; with_reducible rfl)
  try simp only [Go.Mv.clL]
  refine lad_w (v := ?_) rfl rfl (fun xq wx => ?_) ?_
  rotate_left 1
  · (go_simp; with_reducible rfl)
  try simp only [Go.Mv.clL]
  refine lad_t (v := ?_) rfl rfl (fun xq wx hS => ?_) ?_
  rotate_left 1
  · (have hc := (HCV.out.keep (St.fr hS) id).cell (i := 0) rfl; clear hS; go_simp; with_reducible rfl)
  try simp only [Go.Mv.clL]
  refine lad_w (v := ?_) rfl rfl (fun xq wx => ?_) ?_
  rotate_left 1
  · (go_simp; with_reducible rfl)
  try simp only [Go.Mv.clL]
  refine lad_arr rfl rfl rfl (fun _ => rfl) (cw 4 (elN m y1)) (fun wx hS => St.rangeL hS 0 rfl 4 _ (pt_y _ _ _)) Tryd.underlying47 rfl (by kernel_rfl) ?_
  try simp only [Go.Mv.clL]
  refine lad_w (v := ?_) rfl rfl (fun xq wx => ?_) ?_
  rotate_left 1
  · (go_simp; with_reducible rfl)
  try simp only [Go.Mv.clL]
  refine lad_w (v := ?_) rfl rfl (fun xq wx => ?_) ?_
  rotate_left 1
  · (go_simp; with_reducible rfl)
  try simp only [Go.Mv.clL]
  refine lad_w (v := ?_) rfl rfl (fun xq wx => ?_) ?_
  rotate_left 1
  · (go_simp; with_reducible rfl)
  try simp only [Go.Mv.clL]
  refine lad_t (v := ?_) rfl rfl (fun xq wx hS => ?_) ?_
  rotate_left 1
  · (have hc := (HCV.out.keep (St.fr hS) id).cell (i := 0) rfl; clear hS; go_simp; with_reducible rfl)
  try simp only [Go.Mv.clL]
  refine lad_arr rfl rfl rfl (fun _ => rfl) (cw 4 (elN m qq)) (fun wx hS => St.rangeL hS 4 rfl 0 _ (by rw [List.drop_zero, List.take_of_length_le (Nat.le_refl _)])) Tryd.underlying47 rfl (by kernel_rfl) ?_
  try simp only [Go.Mv.clL]
  refine lad_w (v := ?_) rfl rfl (fun xq wx => ?_) ?_
  rotate_left 1
  · (go_simp; with_reducible rfl)
  try simp only [Go.Mv.clL]
  refine lad_arr rfl rfl rfl (fun _ => rfl) (cw 4 (elN m z2)) (fun wx hS => St.rangeL hS 1 rfl 8 _ (pt_z _ _ _)) Tryd.underlying47 rfl (by kernel_rfl) ?_
  try simp only [Go.Mv.clL]
  refine lad_w (v := ?_) rfl rfl (fun xq wx => ?_) ?_
  rotate_left 1
  · (go_simp; with_reducible rfl)
  try simp only [Go.Mv.clL]
  refine lad_w (v := ?_) rfl rfl (fun xq wx => ?_) ?_
  rotate_left 1
  · (go_simp; with_reducible rfl)
  try simp only [Go.Mv.clL]
  refine lad_w (v := ?_) rfl rfl (fun xq wx => ?_) ?_
  rotate_left 1
  · (go_simp; with_reducible rfl)
  try simp only [Go.Mv.clL]
  refine lad_t (v := ?_) rfl rfl (fun xq wx hS => ?_) ?_
  rotate_left 1
  · (have hc := (HCV.out.keep (St.fr hS) id).cell (i := 0) rfl; clear hS; go_simp; with_reducible rfl)
  try simp only [Go.Mv.clL]
  refine lad_w (v := ?_) rfl rfl (fun xq wx => ?_) ?_
  rotate_left 1
  · (go_simp; with_reducible rfl)
  try simp only [Go.Mv.clL]
  refine lad_arr rfl rfl rfl (fun _ => rfl) (cw 4 (elN m y2)) (fun wx hS => St.rangeL hS 1 rfl 4 _ (pt_y _ _ _)) Tryd.underlying47 rfl (by kernel_rfl) ?_
  try simp only [Go.Mv.clL]
  refine lad_w (v := ?_) rfl rfl (fun xq wx => ?_) ?_
  rotate_left 1
  · (go_simp; with_reducible rfl)
  try simp only [Go.Mv.clL]
  refine lad_w (v := ?_) rfl rfl (fun xq wx => ?_) ?_
  rotate_left 1
  · (go_simp; with_reducible rfl)
  try simp only [Go.Mv.clL]
  refine lad_w (v := ?_) rfl rfl (fun xq wx => ?_) ?_
  rotate_left 1
  · (go_simp; with_reducible rfl)
  try simp only [Go.Mv.clL]
  refine lad_t (v := ?_) rfl rfl (fun xq wx hS => ?_) ?_
  rotate_left 1
  · (have hc := (HCV.out.keep (St.fr hS) id).cell (i := 0) rfl; clear hS; go_simp; with_reducible rfl)
  try simp only [Go.Mv.clL]
  refine lad_arr rfl rfl rfl (fun _ => rfl) (cw 4 (elN m pp)) (fun wx hS => St.rangeL hS 3 rfl 0 _ (by rw [List.drop_zero, List.take_of_length_le (Nat.le_refl _)])) Tryd.underlying47 rfl (by kernel_rfl) ?_
  try simp only [Go.Mv.clL]
  refine lad_w (v := ?_) rfl rfl (fun xq wx => ?_) ?_
  rotate_left 1
  · (go_simp; with_reducible rfl)
  try simp only [Go.Mv.clL]
  refine lad_arr rfl rfl rfl (fun _ => rfl) (cw 4 (elN m z1)) (fun wx hS => St.rangeL hS 0 rfl 8 _ (pt_z _ _ _)) Tryd.underlying47 rfl (by kernel_rfl) ?_
  try simp only [Go.Mv.clL]
  refine lad_call rfl rfl rfl Tryd.call40 (fun w hS hR => MMul_v m gp _ HOK.out (HPM.out.keep hS.fr id) qq z2 q3 Hq3.out) (fun _ => rfl) ?_
  try simp only [Go.Mv.clL]
  refine lad_call rfl rfl rfl Tryd.call40 (fun w hS hR => MMul_v m gp _ HOK.out (HPM.out.keep hS.fr id) y1 q3 s1 Hs1.out) (fun _ => rfl) ?_
  try simp only [Go.Mv.clL]
  refine lad_call rfl rfl rfl Tryd.call40 (fun w hS hR => MMul_v m gp _ HOK.out (HPM.out.keep hS.fr id) pp z1 p3 Hp3.out) (fun _ => rfl) ?_
  try simp only [Go.Mv.clL]
  refine lad_call rfl rfl rfl Tryd.call40 (fun w hS hR => MMul_v m gp _ HOK.out (HPM.out.keep hS.fr id) y2 p3 s2 Hs2.out) (fun _ => rfl) ?_
  try simp only [Go.Mv.clL]
  refine lad_j (List.mem_cons_of_mem _ List.mem_cons_self) fun g11 => ?_
  simp only [upd, reduceIte]
  try simp only [Nat.reduceEqDiff, reduceIte]
  refine lad_j List.mem_cons_self fun g12 => ?_
  simp only [upd, reduceIte]
  refine lad_end fun xq w12 st12 hR => ?_
  try dsimp only
  clear hR xq
  refine plan_r rfl rfl ?_
  refine wp_storeS st12 7 rfl rfl rfl rfl (by simp [cw_len]) (by kernel_rfl) (cw_one _ _) ?_
  intro w13 st13
  repeat (first | simp only [List.cons_append] at st13 | simp only [List.nil_append] at st13 | simp only [List.set_cons_succ] at st13 | simp only [List.set_cons_zero] at st13)
  clear st12
  refine ⟨by first | exact st13 | exact St.less st13 (by simp), ?_⟩
  try simp only [Act.put]
  refine plan_m rfl rfl ?_
  refine wp_storeS st13 8 rfl rfl rfl rfl (by simp [cw_len]) (by kernel_rfl) (cw_one _ _) ?_
  intro w14 st14
  try simp only [List.set_cons_zero, List.set_cons_succ] at st14
  clear st13
  try simp only [Act.put]
  refine plan_end ?_
  refine NoPanic.normal ?_
  go_wp2_with fail
  refine wp_region_noPanic ?_
  refine wp_region_lad st14 17 [.o 14, .o 15, .w 0, .w 1, .w 2, .t 3, .t 4, .t 5, .w 7, .w 8, .w 9, .t 10, .t 11, .t 12, .c 6, .c 13, .j 14, .j 15] (.r 16 (.m 17 .nil)) (by kernel_rfl) (by kernel_rfl) (fun _ _ _ _ _ h => h) ?_
  clear st14
  refine lad_o rfl rfl rfl z_ge (cw 4 0) rfl ?_
  try simp only [Go.Mv.clL]
  refine lad_o rfl rfl rfl z_ge (cw 4 0) rfl ?_
  try simp only [Go.Mv.clL]
  refine lad_w (v := ?_) rfl rfl (fun xq wx => ?_) ?_
  rotate_left 1
  · (go_simp; with_reducible rfl)
  try simp only [Go.Mv.clL]
  refine lad_w (v := ?_) rfl rfl (fun xq wx => ?_) ?_
  rotate_left 1
  · (go_simp; with_reducible rfl)
  try simp only [Go.Mv.clL]
  refine lad_w (v := ?_) rfl rfl (fun xq wx => ?_) ?_
  rotate_left 1
  · (go_simp; with_reducible rfl)
  try simp only [Go.Mv.clL]
  refine lad_t (v := ?_) rfl rfl (fun xq wx hS => ?_) ?_
  rotate_left 1
  · (have hc := (HCV.out.keep (St.fr hS) id).cell (i := 0) rfl; clear hS; go_simp; with_reducible rfl)
  try simp only [Go.Mv.clL]
  refine lad_arr rfl rfl rfl (fun _ => rfl) (cw 4 (elN m u2)) (fun wx hS => St.rangeL hS 6 rfl 0 _ (by rw [List.drop_zero, List.take_of_length_le (Nat.le_refl _)])) Tryd.underlying47 rfl (by kernel_rfl) ?_
  try simp only [Go.Mv.clL]
  refine lad_arr rfl rfl rfl (fun _ => rfl) (cw 4 (elN m u1)) (fun wx hS => St.rangeL hS 5 rfl 0 _ (by rw [List.drop_zero, List.take_of_length_le (Nat.le_refl _)])) Tryd.underlying47 rfl (by kernel_rfl) ?_
  try simp only [Go.Mv.clL]
  refine lad_w (v := ?_) rfl rfl (fun xq wx => ?_) ?_
  rotate_left 1
  · (go_simp; with_reducible rfl)
  try simp only [Go.Mv.clL]
  refine lad_w (v := ?_) rfl rfl (fun xq wx => ?_) ?_
  rotate_left 1
  · (go_simp; with_reducible rfl)
  try simp only [Go.Mv.clL]
  refine lad_w (v := ?_) rfl rfl (fun xq wx => ?_) ?_
  rotate_left 1
  · (go_simp; with_reducible rfl)
  try simp only [Go.Mv.clL]
  refine lad_t (v := ?_) rfl rfl (fun xq wx hS => ?_) ?_
  rotate_left 1
  · (have hc := (HCV.out.keep (St.fr hS) id).cell (i := 0) rfl; clear hS; go_simp; with_reducible rfl)
  try simp only [Go.Mv.clL]
  refine lad_arr rfl rfl rfl (fun _ => rfl) (cw 4 (elN m s2)) (fun wx hS => St.rangeL hS 8 rfl 0 _ (by rw [List.drop_zero, List.take_of_length_le (Nat.le_refl _)])) Tryd.underlying47 rfl (by kernel_rfl) ?_
  try simp only [Go.Mv.clL]
  refine lad_arr rfl rfl rfl (fun _ => rfl) (cw 4 (elN m s1)) (fun wx hS => St.rangeL hS 7 rfl 0 _ (by rw [List.drop_zero, List.take_of_length_le (Nat.le_refl _)])) Tryd.underlying47 rfl (by kernel_rfl) ?_
  try simp only [Go.Mv.clL]
  refine lad_call rfl rfl rfl Tryd.call71 (fun w hS hR => MSub_v m gp _ HOK.out (HPM.out.keep hS.fr id) u2 u1 hd Hhd.out) (fun _ => rfl) ?_
  try simp only [Go.Mv.clL]
  refine lad_call rfl rfl rfl Tryd.call71 (fun w hS hR => MSub_v m gp _ HOK.out (HPM.out.keep hS.fr id) s2 s1 rr Hrr.out) (fun _ => rfl) ?_
  try simp only [Go.Mv.clL]
  refine lad_j (List.mem_cons_of_mem _ List.mem_cons_self) fun g13 => ?_
  simp only [upd, reduceIte]
  try simp only [Nat.reduceEqDiff, reduceIte]
  refine lad_j List.mem_cons_self fun g14 => ?_
  simp only [upd, reduceIte]
  refine lad_end fun xq w15 st15 hR => ?_
  try dsimp only
  clear hR xq
  refine plan_r rfl rfl ?_
  refine wp_storeS st15 9 rfl rfl rfl rfl (by simp [cw_len]) (by kernel_rfl) (cw_one _ _) ?_
  intro w16 st16
  repeat (first | simp only [List.cons_append] at st16 | simp only [List.nil_append] at st16 | simp only [List.set_cons_succ] at st16 | simp only [List.set_cons_zero] at st16)
  clear st15
  refine ⟨by first | exact st16 | exact St.less st16 (by simp), ?_⟩
  try simp only [Act.put]
  refine plan_m rfl rfl ?_
  refine wp_storeS st16 10 rfl rfl rfl rfl (by simp [cw_len]) (by kernel_rfl) (cw_one _ _) ?_
  intro w17 st17
  try simp only [List.set_cons_zero, List.set_cons_succ] at st17
  clear st16
  try simp only [Act.put]
  refine plan_end ?_
  refine NoPanic.normal ?_
  rcases Bool.eq_false_or_eq_true (hd % m.M == 0) with hh0 | hh0
  · have HHZ := Lib.hid hh0
    rcases Bool.eq_false_or_eq_true (rr % m.M == 0) with hr0 | hr0
    · have HRZ := Lib.hid hr0
      have HDB := Lib.hid (show ∀ wx, Fr Nob w wx → Calls Tryd.prog 55 #[.pointer (some ⟨gc, 0, none⟩), .agg (cw 4 (elN m x1) ++ (cw 4 (elN m y1) ++ cw 4 (elN m z1))).toArray] wx fun e w' => e = .returned (.agg (cw 4 (elN m DX) ++ (cw 4 (elN m DY) ++ cw 4 (elN m DZ))).toArray) ∧ Fr Nob wx w' from HD0.out hh0 hr0)
      clear hh0 hr0 HD0
      go_wp2_with (with_reducible refine wl_stop (o := ⟨some 101, _, _, _, _, _⟩) ?_)
      refine wl_loadS st17 9 rfl rfl rfl Tryd.underlying47 rfl (by kernel_rfl) ?_
      go_wp2_with fail
      refine (EZero_any m HOK.out hd true HHZ.out _).mono ?_
      rintro e' w18 ⟨rfl, hf18⟩
      have st18 := st17.keep hf18
      clear st17 hf18
      go_wp2_with (with_reducible refine wl_stop (o := ⟨some 103, _, _, _, _, _⟩) ?_)
      refine wl_loadS st18 10 rfl rfl rfl Tryd.underlying47 rfl (by kernel_rfl) ?_
      go_wp2_with fail
      refine (EZero_any m HOK.out rr true HRZ.out _).mono ?_
      rintro e' w19 ⟨rfl, hf19⟩
      have st19 := st18.keep hf19
      clear st18 hf19
      go_wp2_with (with_reducible refine wl_stop (o := ⟨some 106, _, _, _, _, _⟩) ?_)
      refine wl_loadSt st19 0 rfl rfl rfl Tryd.underlying49 rfl rfl (by kernel_rfl) ?_
      go_wp2_with fail
      refine (HDB.out _ st19.fr).mono ?_
      rintro e' w20 ⟨rfl, hf20⟩
      have st20 := st19.keep hf20
      clear st19 hf20
      go_wp2_with (with_reducible refine wl_stop (o := ⟨none, _, _, _, _, _⟩) ?_)
      refine wl_storeS st20 2 rfl rfl rfl rfl rfl (by simp [cw_len]) (by kernel_rfl) (pt_one _ _ _) ?_
      intro w21 st21
      clear st20
      have hr := st21.at 2 rfl
      have hfr := st21.fr
      clear st21
      go_wp2_with fail
      exact bodyPost_ret (results_st rfl rfl hr Tryd.underlying49 rfl (by kernel_rfl)) rfl ⟨by rw [HHZ.out, HRZ.out]; rfl, hfr⟩
    · have HRZ := Lib.hid hr0
      clear hh0 hr0 HD0
      go_wp2_with (with_reducible refine wl_stop (o := ⟨some 101, _, _, _, _, _⟩) ?_)
      refine wl_loadS st17 9 rfl rfl rfl Tryd.underlying47 rfl (by kernel_rfl) ?_
      go_wp2_with fail
      refine (EZero_any m HOK.out hd true HHZ.out _).mono ?_
      rintro e' w18 ⟨rfl, hf18⟩
      have st18 := st17.keep hf18
      clear st17 hf18
      go_wp2_with (with_reducible refine wl_stop (o := ⟨some 103, _, _, _, _, _⟩) ?_)
      refine wl_loadS st18 10 rfl rfl rfl Tryd.underlying47 rfl (by kernel_rfl) ?_
      go_wp2_with fail
      refine (EZero_any m HOK.out rr false HRZ.out _).mono ?_
      rintro e' w19 ⟨rfl, hf19⟩
      have st19 := st18.keep hf19
      clear st18 hf19
      go_wp2_with fail
      refine (nothing_u m gc gp bx by_ _ HOK.out (HCV.out.keep st19.fr id) (HPM.out.keep st19.fr id)).mono ?_
      rintro e' w20 ⟨rfl, hf20⟩
      have st20 := st19.keep hf20
      clear st19 hf20
      go_wp2_with (with_reducible refine wl_stop (o := ⟨none, _, _, _, _, _⟩) ?_)
      refine wl_storeS st20 2 rfl rfl rfl rfl rfl (by simp [cw_len]) (by kernel_rfl) (pt_one _ _ _) ?_
      intro w21 st21
      clear st20
      have hr := st21.at 2 rfl
      have hfr := st21.fr
      clear st21
      go_wp2_with fail
      exact bodyPost_ret (results_st rfl rfl hr Tryd.underlying49 rfl (by kernel_rfl)) rfl ⟨by rw [HHZ.out, HRZ.out]; rfl, hfr⟩
  · have HHZ := Lib.hid hh0
    clear hh0 HD0
    go_wp2_with (with_reducible refine wl_stop (o := ⟨some 101, _, _, _, _, _⟩) ?_)
    refine wl_loadS st17 9 rfl rfl rfl Tryd.underlying47 rfl (by kernel_rfl) ?_
    go_wp2_with fail
    refine (EZero_any m HOK.out hd false HHZ.out _).mono ?_
    rintro e' w18 ⟨rfl, hf18⟩
    have st18 := st17.keep hf18
    clear st17 hf18
    go_wp2_with fail
    refine wp_region_noPanic ?_
    refine wp_region_lad st18 7 [.o 6, .w 0, .w 1, .w 2, .t 3, .t 4, .c 5, .j 6] (.m 7 .nil) (by kernel_rfl) (by kernel_rfl) (fun _ _ _ _ _ h => h) ?_
    clear st18
    refine lad_o rfl rfl rfl z_ge (cw 4 0) rfl ?_
    try simp only [Go.Mv.clL]
    refine lad_w (v := ?_) rfl rfl (fun xq wx => ?_) ?_
    rotate_left 1
    · (go_simp; with_reducible rfl)
    try simp only [Go.Mv.clL]
    refine lad_w (v := ?_) rfl rfl (fun xq wx => ?_) ?_
    rotate_left 1
    · (go_simp; with_reducible rfl)
    try simp only [Go.Mv.clL]
    refine lad_w (v := ?_) rfl rfl (fun xq wx => ?_) ?_
    rotate_left 1
    · (go_simp; with_reducible rfl)
    try simp only [Go.Mv.clL]
    refine lad_t (v := ?_) rfl rfl (fun xq wx hS => ?_) ?_
    rotate_left 1
    · (have hc := (HCV.out.keep (St.fr hS) id).cell (i := 0) rfl; clear hS; go_simp; with_reducible rfl)
    try simp only [Go.Mv.clL]
    refine lad_arr rfl rfl rfl (fun _ => rfl) (cw 4 (elN m hd)) (fun wx hS => St.rangeL hS 9 rfl 0 _ (by rw [List.drop_zero, List.take_of_length_le (Nat.le_refl _)])) Tryd.underlying47 rfl (by kernel_rfl) ?_
    try simp only [Go.Mv.clL]
    refine lad_call rfl rfl rfl Tryd.call38 (fun w hS hR => MSquare_v m gp _ HOK.out (HPM.out.keep hS.fr id) hd hh Hhh.out) (fun _ => rfl) ?_
    try simp only [Go.Mv.clL]
    refine lad_j List.mem_cons_self fun g15 => ?_
    simp only [upd, reduceIte]
    refine lad_end fun xq w19 st19 hR => ?_
    try dsimp only
    clear hR xq
    refine plan_m rfl rfl ?_
    refine wp_storeS st19 11 rfl rfl rfl rfl (by simp [cw_len]) (by kernel_rfl) (cw_one _ _) ?_
    intro w20 st20
    repeat (first | simp only [List.cons_append] at st20 | simp only [List.nil_append] at st20 | simp only [List.set_cons_succ] at st20 | simp only [List.set_cons_zero] at st20)
    clear st19
    try simp only [Act.put]
    refine plan_end ?_
    refine NoPanic.normal ?_
    go_wp2_with fail
    refine wp_region_noPanic ?_
    refine wp_region_lad st20 8 [.o 7, .w 0, .w 1, .w 2, .t 3, .t 4, .t 5, .c 6, .j 7] (.m 8 .nil) (by kernel_rfl) (by kernel_rfl) (fun _ _ _ _ _ h => h) ?_
    clear st20
    refine lad_o rfl rfl rfl z_ge (cw 4 0) rfl ?_
    try simp only [Go.Mv.clL]
    refine lad_w (v := ?_) rfl rfl (fun xq wx => ?_) ?_
    rotate_left 1
    · (go_simp; with_reducible rfl)
    try simp only [Go.Mv.clL]
    refine lad_w (v := ?_) rfl rfl (fun xq wx => ?_) ?_
    rotate_left 1
    · (go_simp; with_reducible rfl)
    try simp only [Go.Mv.clL]
    refine lad_w (v := ?_) rfl rfl (fun xq wx => ?_) ?_
    rotate_left 1
    · (go_simp; with_reducible rfl)
    try simp only [Go.Mv.clL]
    refine lad_t (v := ?_) rfl rfl (fun xq wx hS => ?_) ?_
    rotate_left 1
    · (have hc := (HCV.out.keep (St.fr hS) id).cell (i := 0) rfl; clear hS; go_simp; with_reducible rfl)
    try simp only [Go.Mv.clL]
    refine lad_arr rfl rfl rfl (fun _ => rfl) (cw 4 (elN m hh)) (fun wx hS => St.rangeL hS 11 rfl 0 _ (by rw [List.drop_zero, List.take_of_length_le (Nat.le_refl _)])) Tryd.underlying47 rfl (by kernel_rfl) ?_
    try simp only [Go.Mv.clL]
    refine lad_arr rfl rfl rfl (fun _ => rfl) (cw 4 (elN m hd)) (fun wx hS => St.rangeL hS 9 rfl 0 _ (by rw [List.drop_zero, List.take_of_length_le (Nat.le_refl _)])) Tryd.underlying47 rfl (by kernel_rfl) ?_
    try simp only [Go.Mv.clL]
    refine lad_call rfl rfl rfl Tryd.call40 (fun w hS hR => MMul_v m gp _ HOK.out (HPM.out.keep hS.fr id) hh hd h3 Hh3.out) (fun _ => rfl) ?_
    try simp only [Go.Mv.clL]
    refine lad_j List.mem_cons_self fun g16 => ?_
    simp only [upd, reduceIte]
    refine lad_end fun xq w21 st21 hR => ?_
    try dsimp only
    clear hR xq
    refine plan_m rfl rfl ?_
    refine wp_storeS st21 12 rfl rfl rfl rfl (by simp [cw_len]) (by kernel_rfl) (cw_one _ _) ?_
    intro w22 st22
    repeat (first | simp only [List.cons_append] at st22 | simp only [List.nil_append] at st22 | simp only [List.set_cons_succ] at st22 | simp only [List.set_cons_zero] at st22)
    clear st21
    try simp only [Act.put]
    refine plan_end ?_
    refine NoPanic.normal ?_
    go_wp2_with fail
    refine wp_region_noPanic ?_
    refine wp_region_lad st22 8 [.o 7, .w 0, .w 1, .w 2, .t 3, .t 4, .t 5, .c 6, .j 7] (.m 8 .nil) (by kernel_rfl) (by kernel_rfl) (fun _ _ _ _ _ h => h) ?_
    clear st22
    refine lad_o rfl rfl rfl z_ge (cw 4 0) rfl ?_
    try simp only [Go.Mv.clL]
    refine lad_w (v := ?_) rfl rfl (fun xq wx => ?_) ?_
    rotate_left 1
    · (go_simp; with_reducible rfl)
    try simp only [Go.Mv.clL]
    refine lad_w (v := ?_) rfl rfl (fun xq wx => ?_) ?_
    rotate_left 1
    · (go_simp; with_reducible rfl)
    try simp only [Go.Mv.clL]
    refine lad_w (v := ?_) rfl rfl (fun xq wx => ?_) ?_
    rotate_left 1
    · (go_simp; with_reducible rfl)
    try simp only [Go.Mv.clL]
    refine lad_t (v := ?_) rfl rfl (fun xq wx hS => ?_) ?_
    rotate_left 1
    · (have hc := (HCV.out.keep (St.fr hS) id).cell (i := 0) rfl; clear hS; go_simp; with_reducible rfl)
    try simp only [Go.Mv.clL]
    refine lad_arr rfl rfl rfl (fun _ => rfl) (cw 4 (elN m u1)) (fun wx hS => St.rangeL hS 5 rfl 0 _ (by rw [List.drop_zero, List.take_of_length_le (Nat.le_refl _)])) Tryd.underlying47 rfl (by kernel_rfl) ?_
    try simp only [Go.Mv.clL]
    refine lad_arr rfl rfl rfl (fun _ => rfl) (cw 4 (elN m hh)) (fun wx hS => St.rangeL hS 11 rfl 0 _ (by rw [List.drop_zero, List.take_of_length_le (Nat.le_refl _)])) Tryd.underlying47 rfl (by kernel_rfl) ?_
    try simp only [Go.Mv.clL]
    refine lad_call rfl rfl rfl Tryd.call40 (fun w hS hR => MMul_v m gp _ HOK.out (HPM.out.keep hS.fr id) u1 hh v Hv.out) (fun _ => rfl) ?_
    try simp only [Go.Mv.clL]
    refine lad_j List.mem_cons_self fun g17 => ?_
    simp only [upd, reduceIte]
    refine lad_end fun xq w23 st23 hR => ?_
    try dsimp only
    clear hR xq
    refine plan_m rfl rfl ?_
    refine wp_storeS st23 13 rfl rfl rfl rfl (by simp [cw_len]) (by kernel_rfl) (cw_one _ _) ?_
    intro w24 st24
    repeat (first | simp only [List.cons_append] at st24 | simp only [List.nil_append] at st24 | simp only [List.set_cons_succ] at st24 | simp only [List.set_cons_zero] at st24)
    clear st23
    try simp only [Act.put]
    refine plan_end ?_
    refine NoPanic.normal ?_
    go_wp2_with fail
    refine wp_region_noPanic ?_
    refine wp_region_lad st24 25 [.o 24, .w 0, .w 1, .w 2, .t 3, .w 4, .w 5, .w 6, .t 7, .t 8, .w 10, .w 11, .w 12, .t 13, .t 14, .w 15, .w 16, .w 17, .t 18, .t 19, .t 20, .c 9, .c 21, .c 22, .c 23, .j 24] (.m 25 .nil) (by kernel_rfl) (by kernel_rfl) (fun _ _ _ _ _ h => h) ?_
    clear st24
    refine lad_o rfl rfl rfl z_ge (cw 4 0) rfl ?_
    try simp only [Go.Mv.clL]
    refine lad_w (v := ?_) rfl rfl (fun xq wx => ?_) ?_
    rotate_left 1
    · (go_simp; with_reducible rfl)
    try simp only [Go.Mv.clL]
    refine lad_w (v := ?_) rfl rfl (fun xq wx => ?_) ?_
    rotate_left 1
    · (go_simp; with_reducible rfl)
    try simp only [Go.Mv.clL]
    refine lad_w (v := ?_) rfl rfl (fun xq wx => ?_) ?_
    rotate_left 1
    · (go_simp; with_reducible rfl)
    try simp only [Go.Mv.clL]
    refine lad_t (v := ?_) rfl rfl (fun xq wx hS => ?_) ?_
    rotate_left 1
    · (have hc := (HCV.out.keep (St.fr hS) id).cell (i := 0) rfl; clear hS; go_simp; with_reducible rfl)
    try simp only [Go.Mv.clL]
    refine lad_w (v := ?_) rfl rfl (fun xq wx => ?_) ?_
    rotate_left 1
    · (go_simp; with_reducible rfl)
    try simp only [Go.Mv.clL]
    refine lad_w (v := ?_) rfl rfl (fun xq wx => ?_) ?_
    rotate_left 1
    · (go_simp; with_reducible rfl)
    try simp only [Go.Mv.clL]
    refine lad_w (v := ?_) rfl rfl (fun xq wx => ?_) ?_
    rotate_left 1
    · (go_simp; with_reducible rfl)
    try simp only [Go.Mv.clL]
    refine lad_t (v := ?_) rfl rfl (fun xq wx hS => ?_) ?_
    rotate_left 1
    · (have hc := (HCV.out.keep (St.fr hS) id).cell (i := 0) rfl; clear hS; go_simp; with_reducible rfl)
    try simp only [Go.Mv.clL]
    refine lad_arr rfl rfl rfl (fun _ => rfl) (cw 4 (elN m rr)) (fun wx hS => St.rangeL hS 10 rfl 0 _ (by rw [List.drop_zero, List.take_of_length_le (Nat.le_refl _)])) Tryd.underlying47 rfl (by kernel_rfl) ?_
    try simp only [Go.Mv.clL]
    refine lad_w (v := ?_) rfl rfl (fun xq wx => ?_) ?_
    rotate_left 1
    · (go_simp; with_reducible rfl)
    try simp only [Go.Mv.clL]
    refine lad_w (v := ?_) rfl rfl (fun xq wx => ?_) ?_
    rotate_left 1
    · (go_simp; with_reducible rfl)
    try simp only [Go.Mv.clL]
    refine lad_w (v := ?_) rfl rfl (fun xq wx => ?_) ?_
    rotate_left 1
    · (go_simp; with_reducible rfl)
    try simp only [Go.Mv.clL]
    refine lad_t (v := ?_) rfl rfl (fun xq wx hS => ?_) ?_
    rotate_left 1
    · (have hc := (HCV.out.keep (St.fr hS) id).cell (i := 0) rfl; clear hS; go_simp; with_reducible rfl)
    try simp only [Go.Mv.clL]
    refine lad_arr rfl rfl rfl (fun _ => rfl) (cw 4 (elN m h3)) (fun wx hS => St.rangeL hS 12 rfl 0 _ (by rw [List.drop_zero, List.take_of_length_le (Nat.le_refl _)])) Tryd.underlying47 rfl (by kernel_rfl) ?_
    try simp only [Go.Mv.clL]
    refine lad_w (v := ?_) rfl rfl (fun xq wx => ?_) ?_
    rotate_left 1
    · (go_simp; with_reducible rfl)
    try simp only [Go.Mv.clL]
    refine lad_w (v := ?_) rfl rfl (fun xq wx => ?_) ?_
    rotate_left 1
    · (go_simp; with_reducible rfl)
    try simp only [Go.Mv.clL]
    refine lad_w (v := ?_) rfl rfl (fun xq wx => ?_) ?_
    rotate_left 1
    · (go_simp; with_reducible rfl)
    try simp only [Go.Mv.clL]
    refine lad_t (v := ?_) rfl rfl (fun xq wx hS => ?_) ?_
    rotate_left 1
    · (have hc := (HCV.out.keep (St.fr hS) id).cell (i := 0) rfl; clear hS; go_simp; with_reducible rfl)
    try simp only [Go.Mv.clL]
    refine lad_arr rfl rfl rfl (fun _ => rfl) (cw 4 (elN m v)) (fun wx hS => St.rangeL hS 13 rfl 0 _ (by rw [List.drop_zero, List.take_of_length_le (Nat.le_refl _)])) Tryd.underlying47 rfl (by kernel_rfl) ?_
    try simp only [Go.Mv.clL]
    refine lad_arr rfl rfl rfl (fun _ => rfl) (cw 4 (elN m v)) (fun wx hS => St.rangeL hS 13 rfl 0 _ (by rw [List.drop_zero, List.take_of_length_le (Nat.le_refl _)])) Tryd.underlying47 rfl (by kernel_rfl) ?_
    try simp only [Go.Mv.clL]
    refine lad_call rfl rfl rfl Tryd.call38 (fun w hS hR => MSquare_v m gp _ HOK.out (HPM.out.keep hS.fr id) rr r2 Hr2.out) (fun _ => rfl) ?_
    try simp only [Go.Mv.clL]
    refine lad_call rfl rfl rfl Tryd.call67 (fun w hS hR => MAdd_v m gp _ HOK.out (HPM.out.keep hS.fr id) v v v2 Hv2.out) (fun _ => rfl) ?_
    try simp only [Go.Mv.clL]
    refine lad_call rfl rfl rfl Tryd.call67 (fun w hS hR => MAdd_v m gp _ HOK.out (HPM.out.keep hS.fr id) h3 v2 t1 Ht1.out) (fun _ => rfl) ?_
    try simp only [Go.Mv.clL]
    refine lad_call rfl rfl rfl Tryd.call71 (fun w hS hR => MSub_v m gp _ HOK.out (HPM.out.keep hS.fr id) r2 t1 X HX.out) (fun _ => rfl) ?_
    try simp only [Go.Mv.clL]
    refine lad_j List.mem_cons_self fun g18 => ?_
    simp only [upd, reduceIte]
    refine lad_end fun xq w25 st25 hR => ?_
    try dsimp only
    clear hR xq
    refine plan_m rfl rfl ?_
    refine wp_storeS st25 14 rfl rfl rfl rfl (by simp [cw_len]) (by kernel_rfl) (cw_one _ _) ?_
    intro w26 st26
    repeat (first | simp only [List.cons_append] at st26 | simp only [List.nil_append] at st26 | simp only [List.set_cons_succ] at st26 | simp only [List.set_cons_zero] at st26)
    clear st25
    try simp only [Act.put]
    refine plan_end ?_
    refine NoPanic.normal ?_
    go_wp2_with fail
    refine wp_region_noPanic ?_
    refine wp_region_lad st26 42 [.t 0, .w 1, .w 2, .w 3, .t 4, .w 5, .w 6, .w 7, .t 8, .t 9, .w 10, .w 11, .w 12, .t 13, .t 14, .t 15, .w 18, .w 19, .w 20, .t 21, .t 22, .t 23, .w 26, .w 27, .w 28, .t 29, .t 30, .w 31, .w 32, .w 33, .t 34, .w 35, .t 36, .w 37, .t 38, .c 16, .c 17, .c 24, .c 25, .c 39, .c 40, .w 41] (.m 42 .nil) (by kernel_rfl) (by kernel_rfl) (fun _ _ _ _ _ h => h) ?_
    clear st26
    refine lad_arr rfl rfl rfl (fun _ => rfl) (cw 4 (elN m X)) (fun wx hS => St.rangeL hS 14 rfl 0 _ (by rw [List.drop_zero, List.take_of_length_le (Nat.le_refl _)])) Tryd.underlying47 rfl (by kernel_rfl) ?_
    try simp only [Go.Mv.clL]
    refine lad_w (v := ?_) rfl rfl (fun xq wx => ?_) ?_
    rotate_left 1
    · (go_simp; with_reducible rfl)
    try simp only [Go.Mv.clL]
    refine lad_w (v := ?_) rfl rfl (fun xq wx => ?_) ?_
    rotate_left 1
    · (go_simp; with_reducible rfl)
    try simp only [Go.Mv.clL]
    refine lad_w (v := ?_) rfl rfl (fun xq wx => ?_) ?_
    rotate_left 1
    · (go_simp; with_reducible rfl)
    try simp only [Go.Mv.clL]
    refine lad_t (v := ?_) rfl rfl (fun xq wx hS => ?_) ?_
    rotate_left 1
    · (have hc := (HCV.out.keep (St.fr hS) id).cell (i := 0) rfl; clear hS; go_simp; with_reducible rfl)
    try simp only [Go.Mv.clL]
    refine lad_w (v := ?_) rfl rfl (fun xq wx => ?_) ?_
    rotate_left 1
    · (go_simp; with_reducible rfl)
    try simp only [Go.Mv.clL]
    refine lad_w (v := ?_) rfl rfl (fun xq wx => ?_) ?_
    rotate_left 1
    · (go_simp; with_reducible rfl)
    try simp only [Go.Mv.clL]
    refine lad_w (v := ?_) rfl rfl (fun xq wx => ?_) ?_
    rotate_left 1
    · (go_simp; with_reducible rfl)
    try simp only [Go.Mv.clL]
    refine lad_t (v := ?_) rfl rfl (fun xq wx hS => ?_) ?_
    rotate_left 1
    · (have hc := (HCV.out.keep (St.fr hS) id).cell (i := 0) rfl; clear hS; go_simp; with_reducible rfl)
    try simp only [Go.Mv.clL]
    refine lad_arr rfl rfl rfl (fun _ => rfl) (cw 4 (elN m rr)) (fun wx hS => St.rangeL hS 10 rfl 0 _ (by rw [List.drop_zero, List.take_of_length_le (Nat.le_refl _)])) Tryd.underlying47 rfl (by kernel_rfl) ?_
    try simp only [Go.Mv.clL]
    refine lad_w (v := ?_) rfl rfl (fun xq wx => ?_) ?_
    rotate_left 1
    · (go_simp; with_reducible rfl)
    try simp only [Go.Mv.clL]
    refine lad_w (v := ?_) rfl rfl (fun xq wx => ?_) ?_
    rotate_left 1
    · (go_simp; with_reducible rfl)
    try simp only [Go.Mv.clL]
    refine lad_w (v := ?_) rfl rfl (fun xq wx => ?_) ?_
    rotate_left 1
    · (go_simp; with_reducible rfl)
    try simp only [Go.Mv.clL]
    refine lad_t (v := ?_) rfl rfl (fun xq wx hS => ?_) ?_
    rotate_left 1
    · (have hc := (HCV.out.keep (St.fr hS) id).cell (i := 0) rfl; clear hS; go_simp; with_reducible rfl)
    try simp only [Go.Mv.clL]
    refine lad_arr rfl rfl rfl (fun _ => rfl) (cw 4 (elN m v)) (fun wx hS => St.rangeL hS 13 rfl 0 _ (by rw [List.drop_zero, List.take_of_length_le (Nat.le_refl _)])) Tryd.underlying47 rfl (by kernel_rfl) ?_
    try simp only [Go.Mv.clL]
    refine lad_arr rfl rfl rfl (fun _ => rfl) (cw 4 (elN m X)) (fun wx hS => St.rangeL hS 14 rfl 0 _ (by rw [List.drop_zero, List.take_of_length_le (Nat.le_refl _)])) Tryd.underlying47 rfl (by kernel_rfl) ?_
    try simp only [Go.Mv.clL]
    refine lad_w (v := ?_) rfl rfl (fun xq wx => ?_) ?_
    rotate_left 1
    · (go_simp; with_reducible rfl)
    try simp only [Go.Mv.clL]
    refine lad_w (v := ?_) rfl rfl (fun xq wx => ?_) ?_
    rotate_left 1
    · (go_simp; with_reducible rfl)
    try simp only [Go.Mv.clL]
    refine lad_w (v := ?_) rfl rfl (fun xq wx => ?_) ?_
    rotate_left 1
    · (go_simp; with_reducible rfl)
    try simp only [Go.Mv.clL]
    refine lad_t (v := ?_) rfl rfl (fun xq wx hS => ?_) ?_
    rotate_left 1
    · (have hc := (HCV.out.keep (St.fr hS) id).cell (i := 0) rfl; clear hS; go_simp; with_reducible rfl)
    try simp only [Go.Mv.clL]
    refine lad_arr rfl rfl rfl (fun _ => rfl) (cw 4 (elN m s1)) (fun wx hS => St.rangeL hS 7 rfl 0 _ (by rw [List.drop_zero, List.take_of_length_le (Nat.le_refl _)])) Tryd.underlying47 rfl (by kernel_rfl) ?_
    try simp only [Go.Mv.clL]
    refine lad_arr rfl rfl rfl (fun _ => rfl) (cw 4 (elN m h3)) (fun wx hS => St.rangeL hS 12 rfl 0 _ (by rw [List.drop_zero, List.take_of_length_le (Nat.le_refl _)])) Tryd.underlying47 rfl (by kernel_rfl) ?_
    try simp only [Go.Mv.clL]
    refine lad_w (v := ?_) rfl rfl (fun xq wx => ?_) ?_
    rotate_left 1
    · (go_simp; with_reducible rfl)
    try simp only [Go.Mv.clL]
    refine lad_w (v := ?_) rfl rfl (fun xq wx => ?_) ?_
    rotate_left 1
    · (go_simp; with_reducible rfl)
    try simp only [Go.Mv.clL]
    refine lad_w (v := ?_) rfl rfl (fun xq wx => ?_) ?_
    rotate_left 1
    · (go_simp; with_reducible rfl)
    try simp only [Go.Mv.clL]
    refine lad_t (v := ?_) rfl rfl (fun xq wx hS => ?_) ?_
    rotate_left 1
    · (have hc := (HCV.out.keep (St.fr hS) id).cell (i := 0) rfl; clear hS; go_simp; with_reducible rfl)
    try simp only [Go.Mv.clL]
    refine lad_arr rfl rfl rfl (fun _ => rfl) (cw 4 (elN m hd)) (fun wx hS => St.rangeL hS 9 rfl 0 _ (by rw [List.drop_zero, List.take_of_length_le (Nat.le_refl _)])) Tryd.underlying47 rfl (by kernel_rfl) ?_
    try simp only [Go.Mv.clL]
    refine lad_w (v := ?_) rfl rfl (fun xq wx => ?_) ?_
    rotate_left 1
    · (go_simp; with_reducible rfl)
    try simp only [Go.Mv.clL]
    refine lad_w (v := ?_) rfl rfl (fun xq wx => ?_) ?_
    rotate_left 1
    · (go_simp; with_reducible rfl)
    try simp only [Go.Mv.clL]
    refine lad_w (v := ?_) rfl rfl (fun xq wx => ?_) ?_
    rotate_left 1
    · (go_simp; with_reducible rfl)
    try simp only [Go.Mv.clL]
    refine lad_t (v := ?_) rfl rfl (fun xq wx hS => ?_) ?_
    rotate_left 1
    · (have hc := (HCV.out.keep (St.fr hS) id).cell (i := 0) rfl; clear hS; go_simp; with_reducible rfl)
    try simp only [Go.Mv.clL]
    refine lad_w (v := ?_) rfl rfl (fun xq wx => ?_) ?_
    rotate_left 1
    · (go_simp; with_reducible rfl)
    try simp only [Go.Mv.clL]
    refine lad_arr rfl rfl rfl (fun _ => rfl) (cw 4 (elN m z1)) (fun wx hS => St.rangeL hS 0 rfl 8 _ (pt_z _ _ _)) Tryd.underlying47 rfl (by kernel_rfl) ?_
    try simp only [Go.Mv.clL]
    refine lad_w (v := ?_) rfl rfl (fun xq wx => ?_) ?_
    rotate_left 1
    · (go_simp; with_reducible rfl)
    try simp only [Go.Mv.clL]
    refine lad_arr rfl rfl rfl (fun _ => rfl) (cw 4 (elN m z2)) (fun wx hS => St.rangeL hS 1 rfl 8 _ (pt_z _ _ _)) Tryd.underlying47 rfl (by kernel_rfl) ?_
    try simp only [Go.Mv.clL]
    refine lad_call rfl rfl rfl Tryd.call71 (fun w hS hR => MSub_v m gp _ HOK.out (HPM.out.keep hS.fr id) v X t2 Ht2.out) (fun _ => rfl) ?_
    try simp only [Go.Mv.clL]
    refine lad_call rfl rfl rfl Tryd.call40 (fun w hS hR => MMul_v m gp _ HOK.out (HPM.out.keep hS.fr id) rr t2 t3 Ht3.out) (fun _ => rfl) ?_
    try simp only [Go.Mv.clL]
    refine lad_call rfl rfl rfl Tryd.call40 (fun w hS hR => MMul_v m gp _ HOK.out (HPM.out.keep hS.fr id) s1 h3 t4 Ht4.out) (fun _ => rfl) ?_
    try simp only [Go.Mv.clL]
    refine lad_call rfl rfl rfl Tryd.call71 (fun w hS hR => MSub_v m gp _ HOK.out (HPM.out.keep hS.fr id) t3 t4 Y HY.out) (fun _ => rfl) ?_
    try simp only [Go.Mv.clL]
    refine lad_call rfl rfl rfl Tryd.call40 (fun w hS hR => MMul_v m gp _ HOK.out (HPM.out.keep hS.fr id) z1 z2 zz Hzz.out) (fun _ => rfl) ?_
    try simp only [Go.Mv.clL]
    refine lad_call rfl rfl rfl Tryd.call40 (fun w hS hR => MMul_v m gp _ HOK.out (HPM.out.keep hS.fr id) hd zz Z HZ.out) (fun _ => rfl) ?_
    try simp only [Go.Mv.clL]
    refine lad_w rfl rfl (fun _ => exec_build rfl _ (built_pt _ _ _)) ?_
    try simp only [Go.Mv.clL]
    refine lad_end fun xq w27 st27 hR => ?_
    try dsimp only
    clear hR xq
    refine plan_m rfl rfl ?_
    refine wp_storeS st27 2 rfl rfl rfl rfl (by simp [cw_len]) (by kernel_rfl) (pt_one _ _ _) ?_
    intro w28 st28
    try simp only [List.set_cons_zero, List.set_cons_succ] at st28
    clear st27
    try simp only [Act.put]
    refine plan_end ?_
    refine NoPanic.normal ?_
    have hr := st28.at 2 rfl
    have hfr := st28.fr
    clear st28
    go_wp2_with fail
    exact bodyPost_ret (results_st rfl rfl hr Tryd.underlying49 rfl (by kernel_rfl)) rfl ⟨by rw [HHZ.out]; rfl, hfr⟩
end Go.Proofs.YtemcankmggmgoaaDoor

/- A program's sum of two points as the group's. -/
namespace Go.Proofs.YtemcankmggmgoaaDoor
open Go.RowKit Go.Mv Mvp Mvq
theorem kc_zero' : kc 0 = 0 := by decide
/-- plus: of any points of the curve -/
theorem plus_is (x1 y1 z1 x2 y2 z2 : Nat) (ho1 : onC (jN x1 y1 z1)) (ho2 : onC (jN x2 y2 z2)) :
    ∃ X Y Z, jN X Y Z = padd (jN x1 y1 z1) (jN x2 y2 z2) ∧ ∀ gc gp bx by_ wx, Has wx gc (crvL mP gp bx by_) 57 → Has wx gp (mdL mP) 72 → Calls Tryd.prog 56 #[.pointer (some ⟨gc, 0, none⟩), ptV mP x1 y1 z1, ptV mP x2 y2 z2] wx fun e w' => e = .returned (ptV mP X Y Z) ∧ Fr Nob wx w' := by
  cases hb1 : (z1 % mP.M == 0)
  case true =>
    have hz : kc z1 = 0 := by simpa using z_is _ mP_fP z1 _ hb1
    refine ⟨x2, y2, z2, ?_, fun gc gp bx by_ wx hcv hpm => plus_none1 mP gc gp bx by_ wx mP_ok hcv hpm x1 y1 z1 x2 y2 z2 hb1⟩
    unfold jN
    rw [jk_z hz]; rfl
  case false =>
    have hz1 : kc z1 ≠ 0 := by simpa using z_is _ mP_fP z1 _ hb1
    cases hb2 : (z2 % mP.M == 0)
    case true =>
      have hz : kc z2 = 0 := by simpa using z_is _ mP_fP z2 _ hb2
      refine ⟨x1, y1, z1, ?_, fun gc gp bx by_ wx hcv hpm => plus_none2 mP gc gp bx by_ wx mP_ok hcv hpm x1 y1 z1 x2 y2 z2 hb1 hb2⟩
      unfold jN
      rw [jk_z hz, padd_zero]
    case false =>
      have hz2 : kc z2 ≠ 0 := by simpa using z_is _ mP_fP z2 _ hb2
      obtain ⟨pp, epp⟩ : ∃ q, z1 * z1 = q := ⟨_, rfl⟩
      obtain ⟨qq, eqq⟩ : ∃ q, z2 * z2 = q := ⟨_, rfl⟩
      obtain ⟨u1, eu1⟩ : ∃ q, x1 * qq = q := ⟨_, rfl⟩
      obtain ⟨u2, eu2⟩ : ∃ q, x2 * pp = q := ⟨_, rfl⟩
      obtain ⟨q3, eq3⟩ : ∃ q, qq * z2 = q := ⟨_, rfl⟩
      obtain ⟨s1, es1⟩ : ∃ q, y1 * q3 = q := ⟨_, rfl⟩
      obtain ⟨p3, ep3⟩ : ∃ q, pp * z1 = q := ⟨_, rfl⟩
      obtain ⟨s2, es2⟩ : ∃ q, y2 * p3 = q := ⟨_, rfl⟩
      obtain ⟨hd, ehd⟩ : ∃ q, u2 + (mP.M - u1 % mP.M) = q := ⟨_, rfl⟩
      obtain ⟨rr, err⟩ : ∃ q, s2 + (mP.M - s1 % mP.M) = q := ⟨_, rfl⟩
      have ku1 : kc u1 = kc x1 * (kc z2 * kc z2) := by rw [← eu1, ← eqq, kc_mul', kc_mul']
      have ku2 : kc u2 = kc x2 * (kc z1 * kc z1) := by rw [← eu2, ← epp, kc_mul', kc_mul']
      have ks1 : kc s1 = kc y1 * (kc z2 * kc z2 * kc z2) := by rw [← es1, ← eq3, ← eqq, kc_mul', kc_mul', kc_mul']
      have ks2 : kc s2 = kc y2 * (kc z1 * kc z1 * kc z1) := by rw [← es2, ← ep3, ← epp, kc_mul', kc_mul', kc_mul']
      have khd : kc hd = kc u2 - kc u1 := by rw [← ehd, kc_sub' _ mP_fP]
      have krr : kc rr = kc s2 - kc s1 := by rw [← err, kc_sub' _ mP_fP]
      obtain ⟨DX, DY, DZ, hX, hcall⟩ := double_is x1 y1 z1 ho1
      have hcal := fun gc gp bx by_ wx (hcv : Has wx gc (crvL mP gp bx by_) 57) (hpm : Has wx gp (mdL mP) 72) => gplus_any mP gc gp bx by_ wx mP_ok hcv hpm x1 y1 z1 x2 y2 z2 hb1 hb2 pp qq u1 u2 q3 s1 p3 s2 hd rr _ _ _ _ _ _ _ _ _ _ _ _ _ DX DY DZ epp eqq eu1 eu2 eq3 es1 ep3 es2 ehd err rfl rfl rfl rfl rfl rfl rfl rfl rfl rfl rfl rfl rfl (fun _ _ wy hf2 => hcall gc gp bx by_ wy (hcv.keep hf2 id) (hpm.keep hf2 id))
      cases hh : (hd % mP.M == 0)
      case false =>
        have hn : kc hd ≠ 0 := by simpa using z_is _ mP_fP hd _ hh
        rw [hh] at hcal
        refine ⟨_, _, _, ?_, fun gc gp bx by_ wx hcv hpm => hcal gc gp bx by_ wx hcv hpm⟩
        have h := jk_plus ho1 ho2 hz1 hz2 (kc u1) (kc u2) (kc s1) (kc s2) (kc hd) (kc rr) _ _ _ _ ku1 ku2 ks1 ks2 khd krr hn rfl rfl rfl rfl
        unfold jN at *
        rw [← h]
        simp only [kc_sub' _ mP_fP, kc_addn, kc_mul']
      case true =>
        have h0 : kc hd = 0 := by simpa using z_is _ mP_fP hd _ hh
        have hs := jk_same ho1 ho2 hz1 hz2 (by rw [← ku1, ← ku2, ← khd]; exact h0)
        rw [← ks1, ← ks2, ← krr] at hs
        cases hr : (rr % mP.M == 0)
        case true =>
          have hr0 : kc rr = 0 := by simpa using z_is _ mP_fP rr _ hr
          rw [hh, hr] at hcal
          refine ⟨DX, DY, DZ, ?_, fun gc gp bx by_ wx hcv hpm => hcal gc gp bx by_ wx hcv hpm⟩
          have e := hs.1 hr0
          unfold jN at *
          rw [hX, e]
        case false =>
          have hr0 : kc rr ≠ 0 := by simpa using z_is _ mP_fP rr _ hr
          rw [hh, hr] at hcal
          refine ⟨1, 1, 0, ?_, fun gc gp bx by_ wx hcv hpm => hcal gc gp bx by_ wx hcv hpm⟩
          have e := hs.2 hr0
          unfold jN at *
          rw [e, jk_z kc_zero']
end Go.Proofs.YtemcankmggmgoaaDoor

/- A field's laws, plainly: inverses, roots of squares. -/
namespace Mvq
open Mvp
/-- the prime of the points, of the scalars -/
structure FP (M : Nat) : Prop where
  prime : IsP M
  odd : M % 2 = 1
  big : 3 < M
theorem FP.inv {M a : Nat} (h : FP M) (ha : a < M) (h0 : a ≠ 0) : a * (a ^ (M - 2) % M) % M = 1 := by
  have hd : ¬ M ∣ a := fun hx => by have := Nat.le_of_dvd (by omega) hx; omega
  have hb := h.big
  rw [Nat.mul_mod_mod, Nat.mul_comm, ← Nat.pow_succ, show (M - 2).succ = M - 1 by omega]
  exact fermat h.prime hd
theorem FP.inv0 {M : Nat} (h : FP M) : 0 ^ (M - 2) % M = 0 := by
  have hb := h.big
  rw [Nat.zero_pow (by omega), Nat.zero_mod]
/-- the square of the root of a square -/
theorem root_sq {M a : Nat} (h : FP M) (h4 : M % 4 = 3) (_ : a < M) : rtOk M (a * a % M) = true := by
  unfold rtOk rtN
  rw [beq_iff_eq]
  have hb := h.big
  generalize hk : M / 4 + 1 = k
  have h2 : 4 * k = M + 1 := by omega
  rw [Nat.mul_mod ((a * a % M) ^ k), ← Nat.pow_mod, ← Nat.mul_mod, ← Nat.pow_two a, ← Nat.pow_mul, ← Nat.pow_add, show 2 * k + 2 * k = M + 1 by omega, Nat.mod_mod]
  rw [Nat.pow_succ, Nat.mul_mod, fermat1 h.prime, ← Nat.mul_mod, Nat.pow_two]
theorem root_even {M x : Nat} (h : FP M) : rtV M x % M % 2 = 0 := by
  unfold rtV
  have hb := h.big
  have ho := h.odd
  have hl : rtN M x % M < M := Nat.mod_lt _ (by omega)
  generalize hr : rtN M x % M = r at *
  split
  · rename_i h1
    rw [Nat.mod_eq_of_lt (show M - r < M by omega)]; omega
  · rw [hr]; omega
theorem FP_P : FP pP := ⟨by rw [show pP = 115792089237316195423570985008687907853269984665640564039457584007908834671663 by decide]; exact isP_pP, by decide, by decide⟩
end Mvq
