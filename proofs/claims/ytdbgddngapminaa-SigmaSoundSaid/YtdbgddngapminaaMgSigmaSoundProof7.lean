/- group: double; A program's point: what it stands for; its double as the group's; group: nothing, plus; group: plus, of two points that are not nothing; A program's sum of two points as the group's; A program's points as values: what the curve's functions answer; More makers of one block for the steps of a drawn region: slice literals, boxes; operations that only yield a value; The reference's points: G, Written; A plan for a region whose operations have guards. -/
import Derived.Test.YtdbgddngapminaaMgSigmaSoundProof5
import Derived.Test.YtdbgddngapminaaMgSigmaSoundProof1
import Derived.Test.YtdbgddngapminaaMgSigmaSoundProof4
import Derived.Test.YtdbgddngapminaaMgSigmaSoundProof6
import Derived.Test.YtdbgddngapminaaMgSigmaSoundProof2
import Derived.Test.YtdbgddngapminaaMgSigmaSoundProof3
namespace Go.Proofs.Ytdbgddngapminaa
open Go.RowKit Go.Mv Mvp
theorem z_ge : (Try.prog.info? 70).map (·.zero) = some (some (.agg (cw 4 0).toArray)) := by kernel_rfl
theorem MSquare_v (m : Md) (gp : Nat) (w : World) (hok : m.Ok) (hpm : Has w gp (mdL m) 134) (x r : Nat) (hr : x * x = r) :
    Calls Try.prog 93 #[.pointer (some ⟨gp, 0, none⟩), i4 (elN m x)] w fun e w' => e = .returned (i4 (elN m r)) ∧ Fr Nob w w' := by
  subst hr; exact MSquare_any m gp w hok hpm x
theorem MMul_v (m : Md) (gp : Nat) (w : World) (hok : m.Ok) (hpm : Has w gp (mdL m) 134) (x y r : Nat) (hr : x * y = r) :
    Calls Try.prog 94 #[.pointer (some ⟨gp, 0, none⟩), i4 (elN m x), i4 (elN m y)] w fun e w' => e = .returned (i4 (elN m r)) ∧ Fr Nob w w' := by
  subst hr; exact MMulE m gp w hok hpm x y
theorem MAdd_v (m : Md) (gp : Nat) (w : World) (hok : m.Ok) (hpm : Has w gp (mdL m) 134) (x y r : Nat) (hr : x + y = r) :
    Calls Try.prog 98 #[.pointer (some ⟨gp, 0, none⟩), i4 (elN m x), i4 (elN m y)] w fun e w' => e = .returned (i4 (elN m r)) ∧ Fr Nob w w' := by
  subst hr; exact MAdd_any m gp w hok hpm x y
theorem MSub_v (m : Md) (gp : Nat) (w : World) (hok : m.Ok) (hpm : Has w gp (mdL m) 134) (x y r : Nat) (hr : x + (m.M - y % m.M) = r) :
    Calls Try.prog 95 #[.pointer (some ⟨gp, 0, none⟩), i4 (elN m x), i4 (elN m y)] w fun e w' => e = .returned (i4 (elN m r)) ∧ Fr Nob w w' := by
  subst hr; exact MSub_any m gp w hok hpm x y
attribute [local irreducible] limbs lw mix cw cSub cAdd cMul foldC valFrom beN laid be32 powm montT mstep elN mdL numB
set_option maxHeartbeats 16000000 in
set_option maxRecDepth 1000000 in
theorem double_none (m : Md) (gc gp bx by_ : Nat) (w : World) (hok : m.Ok) (hcv : Has w gc (crvL m gp bx by_) 93) (hpm : Has w gp (mdL m) 134) (x y z : Nat) (hb : (z % m.M == 0) = true) :
    Calls Try.prog 97 #[.pointer (some ⟨gc, 0, none⟩), ptV m x y z] w fun e w' => e = .returned (ptV m x y z) ∧ Fr Nob w w' := by
  have HOK := Lib.hid hok
  have HCV := Lib.hid hcv
  have HPM := Lib.hid hpm
  clear hok hcv hpm
  have HB := Lib.hid hb
  clear hb
  unfold ptV ptL
  have st0 := St.start Nob w
  go_enter Try.func97, Try.ntmps97
  go_wp2_with (with_reducible refine wl_stop (o := ⟨some 3, _, _, _, _, _⟩) ?_)
  refine wl_boxS st0 rfl rfl rfl (cw 4 (elN m x) ++ (cw 4 (elN m y) ++ cw 4 (elN m z))) rfl ?_
  intro g3 w1 st1
  clear st0
  go_wp2_with (with_reducible refine wl_stop (o := ⟨some 4, _, _, _, _, _⟩) ?_)
  refine wl_allocS st1 rfl rfl (z := .agg #[.int .u64 0, .int .u64 0, .int .u64 0, .int .u64 0, .int .u64 0, .int .u64 0, .int .u64 0, .int .u64 0, .int .u64 0, .int .u64 0, .int .u64 0, .int .u64 0]) (by kernel_rfl) (cw 12 0) (by rw [cw_zero]; rfl) ?_
  intro g4 w2 st2
  clear st1
  go_wp2_with (with_reducible refine wl_stop (o := ⟨some 13, _, _, _, _, _⟩) ?_)
  refine wl_loadSt st2 0 rfl rfl rfl Try.underlying72 rfl rfl (by kernel_rfl) ?_
  go_wp2_with fail
  refine (none_any m HOK.out x y z true HB.out _).mono ?_
  rintro e' w3 ⟨rfl, hf3⟩
  have st3 := st2.keep hf3
  clear st2 hf3
  go_wp2_with (with_reducible refine wl_stop (o := ⟨some 15, _, _, _, _, _⟩) ?_)
  refine wl_loadSt st3 0 rfl rfl rfl Try.underlying72 rfl rfl (by kernel_rfl) ?_
  go_wp2_with (with_reducible refine wl_stop (o := ⟨none, _, _, _, _, _⟩) ?_)
  refine wl_storeS st3 1 rfl rfl rfl rfl rfl (by simp [cw_len]) (by kernel_rfl) (pt_one _ _ _) ?_
  intro w4 st4
  clear st3
  have hr := st4.at 1 rfl
  have hfr := st4.fr
  clear st4
  go_wp2_with fail
  exact bodyPost_ret (results_st rfl rfl hr Try.underlying72 rfl (by kernel_rfl)) rfl ⟨rfl, hfr⟩

set_option maxHeartbeats 16000000 in
set_option maxRecDepth 1000000 in
theorem double_v (m : Md) (gc gp bx by_ : Nat) (w : World) (hok : m.Ok) (hcv : Has w gc (crvL m gp bx by_) 93) (hpm : Has w gp (mdL m) 134) (x y z : Nat) (hb : (z % m.M == 0) = false) (a b bb s1 s2 s3 d1 d e1 ee f1 f2 X k1 k2 k3 z1 h1 h2 Y Z : Nat) (ea : x * x = a) (eb : y * y = b) (ebb : b * b = bb) (es1 : x + b = s1) (es2 : s1 * s1 = s2) (es3 : a + bb = s3) (ed1 : s2 + (m.M - s3 % m.M) = d1) (ed : d1 + d1 = d) (ee1 : a + a = e1) (eee : e1 + a = ee) (ef1 : ee * ee = f1) (ef2 : d + d = f2) (eX : f1 + (m.M - f2 % m.M) = X) (ek1 : bb + bb = k1) (ek2 : k1 + k1 = k2) (ek3 : k2 + k2 = k3) (ez1 : y * z = z1) (eh1 : d + (m.M - X % m.M) = h1) (eh2 : ee * h1 = h2) (eY : h2 + (m.M - k3 % m.M) = Y) (eZ : z1 + z1 = Z) :
    Calls Try.prog 97 #[.pointer (some ⟨gc, 0, none⟩), ptV m x y z] w fun e w' => e = .returned (ptV m X Y Z) ∧ Fr Nob w w' := by
  have HOK := Lib.hid hok
  have HCV := Lib.hid hcv
  have HPM := Lib.hid hpm
  clear hok hcv hpm
  have HB := Lib.hid hb
  have Ha := Lib.hid ea
  have Hb := Lib.hid eb
  have Hbb := Lib.hid ebb
  have Hs1 := Lib.hid es1
  have Hs2 := Lib.hid es2
  have Hs3 := Lib.hid es3
  have Hd1 := Lib.hid ed1
  have Hd := Lib.hid ed
  have He1 := Lib.hid ee1
  have Hee := Lib.hid eee
  have Hf1 := Lib.hid ef1
  have Hf2 := Lib.hid ef2
  have HX := Lib.hid eX
  have Hk1 := Lib.hid ek1
  have Hk2 := Lib.hid ek2
  have Hk3 := Lib.hid ek3
  have Hz1 := Lib.hid ez1
  have Hh1 := Lib.hid eh1
  have Hh2 := Lib.hid eh2
  have HY := Lib.hid eY
  have HZ := Lib.hid eZ
  clear hb ea eb ebb es1 es2 es3 ed1 ed ee1 eee ef1 ef2 eX ek1 ek2 ek3 ez1 eh1 eh2 eY eZ
  unfold ptV ptL
  have st0 := St.start Nob w
  go_enter Try.func97, Try.ntmps97
  go_wp2_with (with_reducible refine wl_stop (o := ⟨some 3, _, _, _, _, _⟩) ?_)
  refine wl_boxS st0 rfl rfl rfl (cw 4 (elN m x) ++ (cw 4 (elN m y) ++ cw 4 (elN m z))) rfl ?_
  intro g3 w1 st1
  clear st0
  go_wp2_with (with_reducible refine wl_stop (o := ⟨some 4, _, _, _, _, _⟩) ?_)
  refine wl_allocS st1 rfl rfl (z := .agg #[.int .u64 0, .int .u64 0, .int .u64 0, .int .u64 0, .int .u64 0, .int .u64 0, .int .u64 0, .int .u64 0, .int .u64 0, .int .u64 0, .int .u64 0, .int .u64 0]) (by kernel_rfl) (cw 12 0) (by rw [cw_zero]; rfl) ?_
  intro g4 w2 st2
  clear st1
  go_wp2_with (with_reducible refine wl_stop (o := ⟨some 13, _, _, _, _, _⟩) ?_)
  refine wl_loadSt st2 0 rfl rfl rfl Try.underlying72 rfl rfl (by kernel_rfl) ?_
  go_wp2_with fail
  refine (none_any m HOK.out x y z false HB.out _).mono ?_
  rintro e' w3 ⟨rfl, hf3⟩
  have st3 := st2.keep hf3
  clear st2 hf3
  go_wp2_with fail
  refine wp_region_noPanic ?_
  refine wp_region_lad st3 17 [.o 14, .o 15, .w 0, .w 1, .w 2, .t 3, .w 4, .t 5, .w 7, .w 8, .w 9, .t 10, .w 11, .t 12, .c 6, .c 13, .j 14, .j 15] (.r 16 (.m 17 .nil)) (by kernel_rfl) (by kernel_rfl) (fun _ _ _ _ _ h => h) ?_
  clear st3
  refine lad_o rfl rfl rfl z_ge (cw 4 0) rfl ?_
  try simp only [Act.put, List.setIfInBounds_toArray, List.set_cons_zero, List.set_cons_succ]
  refine lad_o rfl rfl rfl z_ge (cw 4 0) rfl ?_
  try simp only [Act.put, List.setIfInBounds_toArray, List.set_cons_zero, List.set_cons_succ]
  iterate 3 (refine lad_w (v := ?_) rfl rfl (fun xq wx => ?_) ?_; rotate_left 1; · (go_simp; with_reducible rfl); try simp only [Act.put, List.setIfInBounds_toArray, List.set_cons_zero, List.set_cons_succ])
  refine lad_t (v := ?_) rfl rfl (fun xq wx hS => ?_) ?_
  rotate_left 1
  · (have hc := (HCV.out.keep (St.fr hS) id).cell (i := 0) rfl; clear hS; go_simp; with_reducible rfl)
  try simp only [Act.put, List.setIfInBounds_toArray, List.set_cons_zero, List.set_cons_succ]
  refine lad_w (v := ?_) rfl rfl (fun xq wx => ?_) ?_; rotate_left 1; · (go_simp; with_reducible rfl)
  try simp only [Act.put, List.setIfInBounds_toArray, List.set_cons_zero, List.set_cons_succ]
  refine lad_arr rfl rfl rfl (fun _ => rfl) (cw 4 (elN m x)) (fun wx hS => St.rangeL hS 0 rfl 0 _ (pt_x _ _ _)) Try.underlying70 rfl (by kernel_rfl) ?_
  try simp only [Act.put, List.setIfInBounds_toArray, List.set_cons_zero, List.set_cons_succ]
  iterate 3 (refine lad_w (v := ?_) rfl rfl (fun xq wx => ?_) ?_; rotate_left 1; · (go_simp; with_reducible rfl); try simp only [Act.put, List.setIfInBounds_toArray, List.set_cons_zero, List.set_cons_succ])
  refine lad_t (v := ?_) rfl rfl (fun xq wx hS => ?_) ?_
  rotate_left 1
  · (have hc := (HCV.out.keep (St.fr hS) id).cell (i := 0) rfl; clear hS; go_simp; with_reducible rfl)
  try simp only [Act.put, List.setIfInBounds_toArray, List.set_cons_zero, List.set_cons_succ]
  refine lad_w (v := ?_) rfl rfl (fun xq wx => ?_) ?_; rotate_left 1; · (go_simp; with_reducible rfl)
  try simp only [Act.put, List.setIfInBounds_toArray, List.set_cons_zero, List.set_cons_succ]
  refine lad_arr rfl rfl rfl (fun _ => rfl) (cw 4 (elN m y)) (fun wx hS => St.rangeL hS 0 rfl 4 _ (pt_y _ _ _)) Try.underlying70 rfl (by kernel_rfl) ?_
  try simp only [Act.put, List.setIfInBounds_toArray, List.set_cons_zero, List.set_cons_succ]
  refine lad_call rfl rfl rfl Try.call93 (fun w hS hR => MSquare_v m gp _ HOK.out (HPM.out.keep hS.fr id) x a Ha.out) (fun _ => rfl) ?_
  try simp only [Act.put, List.setIfInBounds_toArray, List.set_cons_zero, List.set_cons_succ]
  refine lad_call rfl rfl rfl Try.call93 (fun w hS hR => MSquare_v m gp _ HOK.out (HPM.out.keep hS.fr id) y b Hb.out) (fun _ => rfl) ?_
  try simp only [Act.put, List.setIfInBounds_toArray, List.set_cons_zero, List.set_cons_succ]
  refine lad_j (List.mem_cons_of_mem _ List.mem_cons_self) fun g5 => ?_
  simp only [upd, reduceIte]
  try simp only [Nat.reduceEqDiff, reduceIte]
  refine lad_j List.mem_cons_self fun g6 => ?_
  simp only [upd, reduceIte]
  try simp only [Nat.reduceEqDiff, reduceIte]
  refine lad_end fun xq w4 st4 hR => ?_
  try dsimp only
  clear hR xq
  refine plan_r rfl rfl ?_
  refine wp_storeS st4 2 rfl rfl rfl rfl (by simp [cw_len]) (by kernel_rfl) (cw_one _ _) ?_
  intro w5 st5
  repeat (first | simp only [List.cons_append] at st5 | simp only [List.nil_append] at st5 | simp only [List.set_cons_succ] at st5 | simp only [List.set_cons_zero] at st5)
  clear st4
  refine ⟨by first | exact st5 | exact St.less st5 (by simp), ?_⟩
  try simp only [Act.put]
  refine plan_m rfl rfl ?_
  refine wp_storeS st5 3 rfl rfl rfl rfl (by simp [cw_len]) (by kernel_rfl) (cw_one _ _) ?_
  intro w6 st6
  repeat (first | simp only [List.cons_append] at st6 | simp only [List.nil_append] at st6 | simp only [List.set_cons_succ] at st6 | simp only [List.set_cons_zero] at st6)
  clear st5
  try simp only [Act.put]
  refine plan_end ?_
  refine NoPanic.normal ?_
  go_wp2_with fail
  refine wp_region_noPanic ?_
  refine wp_region_lad st6 7 [.o 6, .w 0, .w 1, .w 2, .t 3, .t 4, .c 5, .j 6] (.m 7 .nil) (by kernel_rfl) (by kernel_rfl) (fun _ _ _ _ _ h => h) ?_
  clear st6
  refine lad_o rfl rfl rfl z_ge (cw 4 0) rfl ?_
  try simp only [Act.put, List.setIfInBounds_toArray, List.set_cons_zero, List.set_cons_succ]
  iterate 3 (refine lad_w (v := ?_) rfl rfl (fun xq wx => ?_) ?_; rotate_left 1; · (go_simp; with_reducible rfl); try simp only [Act.put, List.setIfInBounds_toArray, List.set_cons_zero, List.set_cons_succ])
  refine lad_t (v := ?_) rfl rfl (fun xq wx hS => ?_) ?_
  rotate_left 1
  · (have hc := (HCV.out.keep (St.fr hS) id).cell (i := 0) rfl; clear hS; go_simp; with_reducible rfl)
  try simp only [Act.put, List.setIfInBounds_toArray, List.set_cons_zero, List.set_cons_succ]
  refine lad_arr rfl rfl rfl (fun _ => rfl) (cw 4 (elN m b)) (fun wx hS => St.rangeL hS 3 rfl 0 _ (by rw [List.drop_zero, List.take_of_length_le (Nat.le_refl _)])) Try.underlying70 rfl (by kernel_rfl) ?_
  try simp only [Act.put, List.setIfInBounds_toArray, List.set_cons_zero, List.set_cons_succ]
  refine lad_call rfl rfl rfl Try.call93 (fun w hS hR => MSquare_v m gp _ HOK.out (HPM.out.keep hS.fr id) b bb Hbb.out) (fun _ => rfl) ?_
  try simp only [Act.put, List.setIfInBounds_toArray, List.set_cons_zero, List.set_cons_succ]
  refine lad_j List.mem_cons_self fun g7 => ?_
  simp only [upd, reduceIte]
  try simp only [Nat.reduceEqDiff, reduceIte]
  refine lad_end fun xq w7 st7 hR => ?_
  try dsimp only
  clear hR xq
  refine plan_m rfl rfl ?_
  refine wp_storeS st7 4 rfl rfl rfl rfl (by simp [cw_len]) (by kernel_rfl) (cw_one _ _) ?_
  intro w8 st8
  repeat (first | simp only [List.cons_append] at st8 | simp only [List.nil_append] at st8 | simp only [List.set_cons_succ] at st8 | simp only [List.set_cons_zero] at st8)
  clear st7
  try simp only [Act.put]
  refine plan_end ?_
  refine NoPanic.normal ?_
  go_wp2_with fail
  refine wp_region_noPanic ?_
  refine wp_region_lad st8 26 [.o 25, .w 0, .w 1, .w 2, .t 3, .w 4, .w 5, .w 6, .t 7, .w 8, .w 9, .w 10, .t 11, .w 12, .t 13, .t 14, .w 17, .w 18, .w 19, .t 20, .t 21, .t 22, .c 15, .c 16, .c 23, .c 24, .j 25] (.m 26 .nil) (by kernel_rfl) (by kernel_rfl) (fun _ _ _ _ _ h => h) ?_
  clear st8
  refine lad_o rfl rfl rfl z_ge (cw 4 0) rfl ?_
  try simp only [Act.put, List.setIfInBounds_toArray, List.set_cons_zero, List.set_cons_succ]
  iterate 3 (refine lad_w (v := ?_) rfl rfl (fun xq wx => ?_) ?_; rotate_left 1; · (go_simp; with_reducible rfl); try simp only [Act.put, List.setIfInBounds_toArray, List.set_cons_zero, List.set_cons_succ])
  refine lad_t (v := ?_) rfl rfl (fun xq wx hS => ?_) ?_
  rotate_left 1
  · (have hc := (HCV.out.keep (St.fr hS) id).cell (i := 0) rfl; clear hS; go_simp; with_reducible rfl)
  try simp only [Act.put, List.setIfInBounds_toArray, List.set_cons_zero, List.set_cons_succ]
  iterate 3 (refine lad_w (v := ?_) rfl rfl (fun xq wx => ?_) ?_; rotate_left 1; · (go_simp; with_reducible rfl); try simp only [Act.put, List.setIfInBounds_toArray, List.set_cons_zero, List.set_cons_succ])
  refine lad_t (v := ?_) rfl rfl (fun xq wx hS => ?_) ?_
  rotate_left 1
  · (have hc := (HCV.out.keep (St.fr hS) id).cell (i := 0) rfl; clear hS; go_simp; with_reducible rfl)
  try simp only [Act.put, List.setIfInBounds_toArray, List.set_cons_zero, List.set_cons_succ]
  iterate 3 (refine lad_w (v := ?_) rfl rfl (fun xq wx => ?_) ?_; rotate_left 1; · (go_simp; with_reducible rfl); try simp only [Act.put, List.setIfInBounds_toArray, List.set_cons_zero, List.set_cons_succ])
  refine lad_t (v := ?_) rfl rfl (fun xq wx hS => ?_) ?_
  rotate_left 1
  · (have hc := (HCV.out.keep (St.fr hS) id).cell (i := 0) rfl; clear hS; go_simp; with_reducible rfl)
  try simp only [Act.put, List.setIfInBounds_toArray, List.set_cons_zero, List.set_cons_succ]
  refine lad_w (v := ?_) rfl rfl (fun xq wx => ?_) ?_; rotate_left 1; · (go_simp; with_reducible rfl)
  try simp only [Act.put, List.setIfInBounds_toArray, List.set_cons_zero, List.set_cons_succ]
  refine lad_arr rfl rfl rfl (fun _ => rfl) (cw 4 (elN m x)) (fun wx hS => St.rangeL hS 0 rfl 0 _ (pt_x _ _ _)) Try.underlying70 rfl (by kernel_rfl) ?_
  try simp only [Act.put, List.setIfInBounds_toArray, List.set_cons_zero, List.set_cons_succ]
  refine lad_arr rfl rfl rfl (fun _ => rfl) (cw 4 (elN m b)) (fun wx hS => St.rangeL hS 3 rfl 0 _ (by rw [List.drop_zero, List.take_of_length_le (Nat.le_refl _)])) Try.underlying70 rfl (by kernel_rfl) ?_
  try simp only [Act.put, List.setIfInBounds_toArray, List.set_cons_zero, List.set_cons_succ]
  iterate 3 (refine lad_w (v := ?_) rfl rfl (fun xq wx => ?_) ?_; rotate_left 1; · (go_simp; with_reducible rfl); try simp only [Act.put, List.setIfInBounds_toArray, List.set_cons_zero, List.set_cons_succ])
  refine lad_t (v := ?_) rfl rfl (fun xq wx hS => ?_) ?_
  rotate_left 1
  · (have hc := (HCV.out.keep (St.fr hS) id).cell (i := 0) rfl; clear hS; go_simp; with_reducible rfl)
  try simp only [Act.put, List.setIfInBounds_toArray, List.set_cons_zero, List.set_cons_succ]
  refine lad_arr rfl rfl rfl (fun _ => rfl) (cw 4 (elN m a)) (fun wx hS => St.rangeL hS 2 rfl 0 _ (by rw [List.drop_zero, List.take_of_length_le (Nat.le_refl _)])) Try.underlying70 rfl (by kernel_rfl) ?_
  try simp only [Act.put, List.setIfInBounds_toArray, List.set_cons_zero, List.set_cons_succ]
  refine lad_arr rfl rfl rfl (fun _ => rfl) (cw 4 (elN m bb)) (fun wx hS => St.rangeL hS 4 rfl 0 _ (by rw [List.drop_zero, List.take_of_length_le (Nat.le_refl _)])) Try.underlying70 rfl (by kernel_rfl) ?_
  try simp only [Act.put, List.setIfInBounds_toArray, List.set_cons_zero, List.set_cons_succ]
  refine lad_call rfl rfl rfl Try.call98 (fun w hS hR => MAdd_v m gp _ HOK.out (HPM.out.keep hS.fr id) x b s1 Hs1.out) (fun _ => rfl) ?_
  try simp only [Act.put, List.setIfInBounds_toArray, List.set_cons_zero, List.set_cons_succ]
  refine lad_call rfl rfl rfl Try.call93 (fun w hS hR => MSquare_v m gp _ HOK.out (HPM.out.keep hS.fr id) s1 s2 Hs2.out) (fun _ => rfl) ?_
  try simp only [Act.put, List.setIfInBounds_toArray, List.set_cons_zero, List.set_cons_succ]
  refine lad_call rfl rfl rfl Try.call98 (fun w hS hR => MAdd_v m gp _ HOK.out (HPM.out.keep hS.fr id) a bb s3 Hs3.out) (fun _ => rfl) ?_
  try simp only [Act.put, List.setIfInBounds_toArray, List.set_cons_zero, List.set_cons_succ]
  refine lad_call rfl rfl rfl Try.call95 (fun w hS hR => MSub_v m gp _ HOK.out (HPM.out.keep hS.fr id) s2 s3 d1 Hd1.out) (fun _ => rfl) ?_
  try simp only [Act.put, List.setIfInBounds_toArray, List.set_cons_zero, List.set_cons_succ]
  refine lad_j List.mem_cons_self fun g8 => ?_
  simp only [upd, reduceIte]
  try simp only [Nat.reduceEqDiff, reduceIte]
  refine lad_end fun xq w9 st9 hR => ?_
  try dsimp only
  clear hR xq
  refine plan_m rfl rfl ?_
  refine wp_storeS st9 5 rfl rfl rfl rfl (by simp [cw_len]) (by kernel_rfl) (cw_one _ _) ?_
  intro w10 st10
  repeat (first | simp only [List.cons_append] at st10 | simp only [List.nil_append] at st10 | simp only [List.set_cons_succ] at st10 | simp only [List.set_cons_zero] at st10)
  clear st9
  try simp only [Act.put]
  refine plan_end ?_
  refine NoPanic.normal ?_
  go_wp2_with fail
  refine wp_region_noPanic ?_
  refine wp_region_lad st10 7 [.w 0, .w 1, .w 2, .t 3, .t 4, .t 5, .c 6] (.m 7 .nil) (by kernel_rfl) (by kernel_rfl) (fun _ _ _ _ _ h => h) ?_
  clear st10
  iterate 3 (refine lad_w (v := ?_) rfl rfl (fun xq wx => ?_) ?_; rotate_left 1; · (go_simp; with_reducible rfl); try simp only [Act.put, List.setIfInBounds_toArray, List.set_cons_zero, List.set_cons_succ])
  refine lad_t (v := ?_) rfl rfl (fun xq wx hS => ?_) ?_
  rotate_left 1
  · (have hc := (HCV.out.keep (St.fr hS) id).cell (i := 0) rfl; clear hS; go_simp; with_reducible rfl)
  try simp only [Act.put, List.setIfInBounds_toArray, List.set_cons_zero, List.set_cons_succ]
  refine lad_arr rfl rfl rfl (fun _ => rfl) (cw 4 (elN m d1)) (fun wx hS => St.rangeL hS 5 rfl 0 _ (by rw [List.drop_zero, List.take_of_length_le (Nat.le_refl _)])) Try.underlying70 rfl (by kernel_rfl) ?_
  try simp only [Act.put, List.setIfInBounds_toArray, List.set_cons_zero, List.set_cons_succ]
  refine lad_arr rfl rfl rfl (fun _ => rfl) (cw 4 (elN m d1)) (fun wx hS => St.rangeL hS 5 rfl 0 _ (by rw [List.drop_zero, List.take_of_length_le (Nat.le_refl _)])) Try.underlying70 rfl (by kernel_rfl) ?_
  try simp only [Act.put, List.setIfInBounds_toArray, List.set_cons_zero, List.set_cons_succ]
  refine lad_call rfl rfl rfl Try.call98 (fun w hS hR => MAdd_v m gp _ HOK.out (HPM.out.keep hS.fr id) d1 d1 d Hd.out) (fun _ => rfl) ?_
  try simp only [Act.put, List.setIfInBounds_toArray, List.set_cons_zero, List.set_cons_succ]
  refine lad_end fun xq w11 st11 hR => ?_
  try dsimp only
  clear hR xq
  refine plan_m rfl rfl ?_
  refine wp_storeS st11 5 rfl rfl rfl rfl (by simp [cw_len]) (by kernel_rfl) (cw_one _ _) ?_
  intro w12 st12
  repeat (first | simp only [List.cons_append] at st12 | simp only [List.nil_append] at st12 | simp only [List.set_cons_succ] at st12 | simp only [List.set_cons_zero] at st12)
  clear st11
  try simp only [Act.put]
  refine plan_end ?_
  refine NoPanic.normal ?_
  go_wp2_with fail
  refine wp_region_noPanic ?_
  refine wp_region_lad st12 14 [.o 13, .w 0, .w 1, .w 2, .t 3, .w 4, .w 5, .w 6, .t 7, .t 8, .t 9, .t 11, .c 10, .c 12, .j 13] (.m 14 .nil) (by kernel_rfl) (by kernel_rfl) (fun _ _ _ _ _ h => h) ?_
  clear st12
  refine lad_o rfl rfl rfl z_ge (cw 4 0) rfl ?_
  try simp only [Act.put, List.setIfInBounds_toArray, List.set_cons_zero, List.set_cons_succ]
  iterate 3 (refine lad_w (v := ?_) rfl rfl (fun xq wx => ?_) ?_; rotate_left 1; · (go_simp; with_reducible rfl); try simp only [Act.put, List.setIfInBounds_toArray, List.set_cons_zero, List.set_cons_succ])
  refine lad_t (v := ?_) rfl rfl (fun xq wx hS => ?_) ?_
  rotate_left 1
  · (have hc := (HCV.out.keep (St.fr hS) id).cell (i := 0) rfl; clear hS; go_simp; with_reducible rfl)
  try simp only [Act.put, List.setIfInBounds_toArray, List.set_cons_zero, List.set_cons_succ]
  iterate 3 (refine lad_w (v := ?_) rfl rfl (fun xq wx => ?_) ?_; rotate_left 1; · (go_simp; with_reducible rfl); try simp only [Act.put, List.setIfInBounds_toArray, List.set_cons_zero, List.set_cons_succ])
  refine lad_t (v := ?_) rfl rfl (fun xq wx hS => ?_) ?_
  rotate_left 1
  · (have hc := (HCV.out.keep (St.fr hS) id).cell (i := 0) rfl; clear hS; go_simp; with_reducible rfl)
  try simp only [Act.put, List.setIfInBounds_toArray, List.set_cons_zero, List.set_cons_succ]
  refine lad_arr rfl rfl rfl (fun _ => rfl) (cw 4 (elN m a)) (fun wx hS => St.rangeL hS 2 rfl 0 _ (by rw [List.drop_zero, List.take_of_length_le (Nat.le_refl _)])) Try.underlying70 rfl (by kernel_rfl) ?_
  try simp only [Act.put, List.setIfInBounds_toArray, List.set_cons_zero, List.set_cons_succ]
  refine lad_arr rfl rfl rfl (fun _ => rfl) (cw 4 (elN m a)) (fun wx hS => St.rangeL hS 2 rfl 0 _ (by rw [List.drop_zero, List.take_of_length_le (Nat.le_refl _)])) Try.underlying70 rfl (by kernel_rfl) ?_
  try simp only [Act.put, List.setIfInBounds_toArray, List.set_cons_zero, List.set_cons_succ]
  refine lad_arr rfl rfl rfl (fun _ => rfl) (cw 4 (elN m a)) (fun wx hS => St.rangeL hS 2 rfl 0 _ (by rw [List.drop_zero, List.take_of_length_le (Nat.le_refl _)])) Try.underlying70 rfl (by kernel_rfl) ?_
  try simp only [Act.put, List.setIfInBounds_toArray, List.set_cons_zero, List.set_cons_succ]
  refine lad_call rfl rfl rfl Try.call98 (fun w hS hR => MAdd_v m gp _ HOK.out (HPM.out.keep hS.fr id) a a e1 He1.out) (fun _ => rfl) ?_
  try simp only [Act.put, List.setIfInBounds_toArray, List.set_cons_zero, List.set_cons_succ]
  refine lad_call rfl rfl rfl Try.call98 (fun w hS hR => MAdd_v m gp _ HOK.out (HPM.out.keep hS.fr id) e1 a ee Hee.out) (fun _ => rfl) ?_
  try simp only [Act.put, List.setIfInBounds_toArray, List.set_cons_zero, List.set_cons_succ]
  refine lad_j List.mem_cons_self fun g9 => ?_
  simp only [upd, reduceIte]
  try simp only [Nat.reduceEqDiff, reduceIte]
  refine lad_end fun xq w13 st13 hR => ?_
  try dsimp only
  clear hR xq
  refine plan_m rfl rfl ?_
  refine wp_storeS st13 6 rfl rfl rfl rfl (by simp [cw_len]) (by kernel_rfl) (cw_one _ _) ?_
  intro w14 st14
  repeat (first | simp only [List.cons_append] at st14 | simp only [List.nil_append] at st14 | simp only [List.set_cons_succ] at st14 | simp only [List.set_cons_zero] at st14)
  clear st13
  try simp only [Act.put]
  refine plan_end ?_
  refine NoPanic.normal ?_
  go_wp2_with fail
  refine wp_region_noPanic ?_
  refine wp_region_lad st14 19 [.o 18, .w 0, .w 1, .w 2, .t 3, .w 4, .w 5, .w 6, .t 7, .t 8, .w 10, .w 11, .w 12, .t 13, .t 14, .t 15, .c 9, .c 16, .c 17, .j 18] (.m 19 .nil) (by kernel_rfl) (by kernel_rfl) (fun _ _ _ _ _ h => h) ?_
  clear st14
  refine lad_o rfl rfl rfl z_ge (cw 4 0) rfl ?_
  try simp only [Act.put, List.setIfInBounds_toArray, List.set_cons_zero, List.set_cons_succ]
  iterate 3 (refine lad_w (v := ?_) rfl rfl (fun xq wx => ?_) ?_; rotate_left 1; · (go_simp; with_reducible rfl); try simp only [Act.put, List.setIfInBounds_toArray, List.set_cons_zero, List.set_cons_succ])
  refine lad_t (v := ?_) rfl rfl (fun xq wx hS => ?_) ?_
  rotate_left 1
  · (have hc := (HCV.out.keep (St.fr hS) id).cell (i := 0) rfl; clear hS; go_simp; with_reducible rfl)
  try simp only [Act.put, List.setIfInBounds_toArray, List.set_cons_zero, List.set_cons_succ]
  iterate 3 (refine lad_w (v := ?_) rfl rfl (fun xq wx => ?_) ?_; rotate_left 1; · (go_simp; with_reducible rfl); try simp only [Act.put, List.setIfInBounds_toArray, List.set_cons_zero, List.set_cons_succ])
  refine lad_t (v := ?_) rfl rfl (fun xq wx hS => ?_) ?_
  rotate_left 1
  · (have hc := (HCV.out.keep (St.fr hS) id).cell (i := 0) rfl; clear hS; go_simp; with_reducible rfl)
  try simp only [Act.put, List.setIfInBounds_toArray, List.set_cons_zero, List.set_cons_succ]
  refine lad_arr rfl rfl rfl (fun _ => rfl) (cw 4 (elN m ee)) (fun wx hS => St.rangeL hS 6 rfl 0 _ (by rw [List.drop_zero, List.take_of_length_le (Nat.le_refl _)])) Try.underlying70 rfl (by kernel_rfl) ?_
  try simp only [Act.put, List.setIfInBounds_toArray, List.set_cons_zero, List.set_cons_succ]
  iterate 3 (refine lad_w (v := ?_) rfl rfl (fun xq wx => ?_) ?_; rotate_left 1; · (go_simp; with_reducible rfl); try simp only [Act.put, List.setIfInBounds_toArray, List.set_cons_zero, List.set_cons_succ])
  refine lad_t (v := ?_) rfl rfl (fun xq wx hS => ?_) ?_
  rotate_left 1
  · (have hc := (HCV.out.keep (St.fr hS) id).cell (i := 0) rfl; clear hS; go_simp; with_reducible rfl)
  try simp only [Act.put, List.setIfInBounds_toArray, List.set_cons_zero, List.set_cons_succ]
  refine lad_arr rfl rfl rfl (fun _ => rfl) (cw 4 (elN m d)) (fun wx hS => St.rangeL hS 5 rfl 0 _ (by rw [List.drop_zero, List.take_of_length_le (Nat.le_refl _)])) Try.underlying70 rfl (by kernel_rfl) ?_
  try simp only [Act.put, List.setIfInBounds_toArray, List.set_cons_zero, List.set_cons_succ]
  refine lad_arr rfl rfl rfl (fun _ => rfl) (cw 4 (elN m d)) (fun wx hS => St.rangeL hS 5 rfl 0 _ (by rw [List.drop_zero, List.take_of_length_le (Nat.le_refl _)])) Try.underlying70 rfl (by kernel_rfl) ?_
  try simp only [Act.put, List.setIfInBounds_toArray, List.set_cons_zero, List.set_cons_succ]
  refine lad_call rfl rfl rfl Try.call93 (fun w hS hR => MSquare_v m gp _ HOK.out (HPM.out.keep hS.fr id) ee f1 Hf1.out) (fun _ => rfl) ?_
  try simp only [Act.put, List.setIfInBounds_toArray, List.set_cons_zero, List.set_cons_succ]
  refine lad_call rfl rfl rfl Try.call98 (fun w hS hR => MAdd_v m gp _ HOK.out (HPM.out.keep hS.fr id) d d f2 Hf2.out) (fun _ => rfl) ?_
  try simp only [Act.put, List.setIfInBounds_toArray, List.set_cons_zero, List.set_cons_succ]
  refine lad_call rfl rfl rfl Try.call95 (fun w hS hR => MSub_v m gp _ HOK.out (HPM.out.keep hS.fr id) f1 f2 X HX.out) (fun _ => rfl) ?_
  try simp only [Act.put, List.setIfInBounds_toArray, List.set_cons_zero, List.set_cons_succ]
  refine lad_j List.mem_cons_self fun g10 => ?_
  simp only [upd, reduceIte]
  try simp only [Nat.reduceEqDiff, reduceIte]
  refine lad_end fun xq w15 st15 hR => ?_
  try dsimp only
  clear hR xq
  refine plan_m rfl rfl ?_
  refine wp_storeS st15 7 rfl rfl rfl rfl (by simp [cw_len]) (by kernel_rfl) (cw_one _ _) ?_
  intro w16 st16
  repeat (first | simp only [List.cons_append] at st16 | simp only [List.nil_append] at st16 | simp only [List.set_cons_succ] at st16 | simp only [List.set_cons_zero] at st16)
  clear st15
  try simp only [Act.put]
  refine plan_end ?_
  refine NoPanic.normal ?_
  go_wp2_with fail
  refine wp_region_noPanic ?_
  refine wp_region_lad st16 8 [.o 7, .w 0, .w 1, .w 2, .t 3, .t 4, .t 5, .c 6, .j 7] (.m 8 .nil) (by kernel_rfl) (by kernel_rfl) (fun _ _ _ _ _ h => h) ?_
  clear st16
  refine lad_o rfl rfl rfl z_ge (cw 4 0) rfl ?_
  try simp only [Act.put, List.setIfInBounds_toArray, List.set_cons_zero, List.set_cons_succ]
  iterate 3 (refine lad_w (v := ?_) rfl rfl (fun xq wx => ?_) ?_; rotate_left 1; · (go_simp; with_reducible rfl); try simp only [Act.put, List.setIfInBounds_toArray, List.set_cons_zero, List.set_cons_succ])
  refine lad_t (v := ?_) rfl rfl (fun xq wx hS => ?_) ?_
  rotate_left 1
  · (have hc := (HCV.out.keep (St.fr hS) id).cell (i := 0) rfl; clear hS; go_simp; with_reducible rfl)
  try simp only [Act.put, List.setIfInBounds_toArray, List.set_cons_zero, List.set_cons_succ]
  refine lad_arr rfl rfl rfl (fun _ => rfl) (cw 4 (elN m bb)) (fun wx hS => St.rangeL hS 4 rfl 0 _ (by rw [List.drop_zero, List.take_of_length_le (Nat.le_refl _)])) Try.underlying70 rfl (by kernel_rfl) ?_
  try simp only [Act.put, List.setIfInBounds_toArray, List.set_cons_zero, List.set_cons_succ]
  refine lad_arr rfl rfl rfl (fun _ => rfl) (cw 4 (elN m bb)) (fun wx hS => St.rangeL hS 4 rfl 0 _ (by rw [List.drop_zero, List.take_of_length_le (Nat.le_refl _)])) Try.underlying70 rfl (by kernel_rfl) ?_
  try simp only [Act.put, List.setIfInBounds_toArray, List.set_cons_zero, List.set_cons_succ]
  refine lad_call rfl rfl rfl Try.call98 (fun w hS hR => MAdd_v m gp _ HOK.out (HPM.out.keep hS.fr id) bb bb k1 Hk1.out) (fun _ => rfl) ?_
  try simp only [Act.put, List.setIfInBounds_toArray, List.set_cons_zero, List.set_cons_succ]
  refine lad_j List.mem_cons_self fun g11 => ?_
  simp only [upd, reduceIte]
  try simp only [Nat.reduceEqDiff, reduceIte]
  refine lad_end fun xq w17 st17 hR => ?_
  try dsimp only
  clear hR xq
  refine plan_m rfl rfl ?_
  refine wp_storeS st17 8 rfl rfl rfl rfl (by simp [cw_len]) (by kernel_rfl) (cw_one _ _) ?_
  intro w18 st18
  repeat (first | simp only [List.cons_append] at st18 | simp only [List.nil_append] at st18 | simp only [List.set_cons_succ] at st18 | simp only [List.set_cons_zero] at st18)
  clear st17
  try simp only [Act.put]
  refine plan_end ?_
  refine NoPanic.normal ?_
  go_wp2_with fail
  refine wp_region_noPanic ?_
  refine wp_region_lad st18 7 [.w 0, .w 1, .w 2, .t 3, .t 4, .t 5, .c 6] (.m 7 .nil) (by kernel_rfl) (by kernel_rfl) (fun _ _ _ _ _ h => h) ?_
  clear st18
  iterate 3 (refine lad_w (v := ?_) rfl rfl (fun xq wx => ?_) ?_; rotate_left 1; · (go_simp; with_reducible rfl); try simp only [Act.put, List.setIfInBounds_toArray, List.set_cons_zero, List.set_cons_succ])
  refine lad_t (v := ?_) rfl rfl (fun xq wx hS => ?_) ?_
  rotate_left 1
  · (have hc := (HCV.out.keep (St.fr hS) id).cell (i := 0) rfl; clear hS; go_simp; with_reducible rfl)
  try simp only [Act.put, List.setIfInBounds_toArray, List.set_cons_zero, List.set_cons_succ]
  refine lad_arr rfl rfl rfl (fun _ => rfl) (cw 4 (elN m k1)) (fun wx hS => St.rangeL hS 8 rfl 0 _ (by rw [List.drop_zero, List.take_of_length_le (Nat.le_refl _)])) Try.underlying70 rfl (by kernel_rfl) ?_
  try simp only [Act.put, List.setIfInBounds_toArray, List.set_cons_zero, List.set_cons_succ]
  refine lad_arr rfl rfl rfl (fun _ => rfl) (cw 4 (elN m k1)) (fun wx hS => St.rangeL hS 8 rfl 0 _ (by rw [List.drop_zero, List.take_of_length_le (Nat.le_refl _)])) Try.underlying70 rfl (by kernel_rfl) ?_
  try simp only [Act.put, List.setIfInBounds_toArray, List.set_cons_zero, List.set_cons_succ]
  refine lad_call rfl rfl rfl Try.call98 (fun w hS hR => MAdd_v m gp _ HOK.out (HPM.out.keep hS.fr id) k1 k1 k2 Hk2.out) (fun _ => rfl) ?_
  try simp only [Act.put, List.setIfInBounds_toArray, List.set_cons_zero, List.set_cons_succ]
  refine lad_end fun xq w19 st19 hR => ?_
  try dsimp only
  clear hR xq
  refine plan_m rfl rfl ?_
  refine wp_storeS st19 8 rfl rfl rfl rfl (by simp [cw_len]) (by kernel_rfl) (cw_one _ _) ?_
  intro w20 st20
  repeat (first | simp only [List.cons_append] at st20 | simp only [List.nil_append] at st20 | simp only [List.set_cons_succ] at st20 | simp only [List.set_cons_zero] at st20)
  clear st19
  try simp only [Act.put]
  refine plan_end ?_
  refine NoPanic.normal ?_
  go_wp2_with fail
  refine wp_region_noPanic ?_
  refine wp_region_lad st20 7 [.w 0, .w 1, .w 2, .t 3, .t 4, .t 5, .c 6] (.m 7 .nil) (by kernel_rfl) (by kernel_rfl) (fun _ _ _ _ _ h => h) ?_
  clear st20
  iterate 3 (refine lad_w (v := ?_) rfl rfl (fun xq wx => ?_) ?_; rotate_left 1; · (go_simp; with_reducible rfl); try simp only [Act.put, List.setIfInBounds_toArray, List.set_cons_zero, List.set_cons_succ])
  refine lad_t (v := ?_) rfl rfl (fun xq wx hS => ?_) ?_
  rotate_left 1
  · (have hc := (HCV.out.keep (St.fr hS) id).cell (i := 0) rfl; clear hS; go_simp; with_reducible rfl)
  try simp only [Act.put, List.setIfInBounds_toArray, List.set_cons_zero, List.set_cons_succ]
  refine lad_arr rfl rfl rfl (fun _ => rfl) (cw 4 (elN m k2)) (fun wx hS => St.rangeL hS 8 rfl 0 _ (by rw [List.drop_zero, List.take_of_length_le (Nat.le_refl _)])) Try.underlying70 rfl (by kernel_rfl) ?_
  try simp only [Act.put, List.setIfInBounds_toArray, List.set_cons_zero, List.set_cons_succ]
  refine lad_arr rfl rfl rfl (fun _ => rfl) (cw 4 (elN m k2)) (fun wx hS => St.rangeL hS 8 rfl 0 _ (by rw [List.drop_zero, List.take_of_length_le (Nat.le_refl _)])) Try.underlying70 rfl (by kernel_rfl) ?_
  try simp only [Act.put, List.setIfInBounds_toArray, List.set_cons_zero, List.set_cons_succ]
  refine lad_call rfl rfl rfl Try.call98 (fun w hS hR => MAdd_v m gp _ HOK.out (HPM.out.keep hS.fr id) k2 k2 k3 Hk3.out) (fun _ => rfl) ?_
  try simp only [Act.put, List.setIfInBounds_toArray, List.set_cons_zero, List.set_cons_succ]
  refine lad_end fun xq w21 st21 hR => ?_
  try dsimp only
  clear hR xq
  refine plan_m rfl rfl ?_
  refine wp_storeS st21 8 rfl rfl rfl rfl (by simp [cw_len]) (by kernel_rfl) (cw_one _ _) ?_
  intro w22 st22
  repeat (first | simp only [List.cons_append] at st22 | simp only [List.nil_append] at st22 | simp only [List.set_cons_succ] at st22 | simp only [List.set_cons_zero] at st22)
  clear st21
  try simp only [Act.put]
  refine plan_end ?_
  refine NoPanic.normal ?_
  go_wp2_with fail
  refine wp_region_noPanic ?_
  refine wp_region_lad st22 10 [.o 9, .w 0, .w 1, .w 2, .t 3, .w 4, .t 5, .w 6, .t 7, .c 8, .j 9] (.m 10 .nil) (by kernel_rfl) (by kernel_rfl) (fun _ _ _ _ _ h => h) ?_
  clear st22
  refine lad_o rfl rfl rfl z_ge (cw 4 0) rfl ?_
  try simp only [Act.put, List.setIfInBounds_toArray, List.set_cons_zero, List.set_cons_succ]
  iterate 3 (refine lad_w (v := ?_) rfl rfl (fun xq wx => ?_) ?_; rotate_left 1; · (go_simp; with_reducible rfl); try simp only [Act.put, List.setIfInBounds_toArray, List.set_cons_zero, List.set_cons_succ])
  refine lad_t (v := ?_) rfl rfl (fun xq wx hS => ?_) ?_
  rotate_left 1
  · (have hc := (HCV.out.keep (St.fr hS) id).cell (i := 0) rfl; clear hS; go_simp; with_reducible rfl)
  try simp only [Act.put, List.setIfInBounds_toArray, List.set_cons_zero, List.set_cons_succ]
  refine lad_w (v := ?_) rfl rfl (fun xq wx => ?_) ?_; rotate_left 1; · (go_simp; with_reducible rfl)
  try simp only [Act.put, List.setIfInBounds_toArray, List.set_cons_zero, List.set_cons_succ]
  refine lad_arr rfl rfl rfl (fun _ => rfl) (cw 4 (elN m y)) (fun wx hS => St.rangeL hS 0 rfl 4 _ (pt_y _ _ _)) Try.underlying70 rfl (by kernel_rfl) ?_
  try simp only [Act.put, List.setIfInBounds_toArray, List.set_cons_zero, List.set_cons_succ]
  refine lad_w (v := ?_) rfl rfl (fun xq wx => ?_) ?_; rotate_left 1; · (go_simp; with_reducible rfl)
  try simp only [Act.put, List.setIfInBounds_toArray, List.set_cons_zero, List.set_cons_succ]
  refine lad_arr rfl rfl rfl (fun _ => rfl) (cw 4 (elN m z)) (fun wx hS => St.rangeL hS 0 rfl 8 _ (pt_z _ _ _)) Try.underlying70 rfl (by kernel_rfl) ?_
  try simp only [Act.put, List.setIfInBounds_toArray, List.set_cons_zero, List.set_cons_succ]
  refine lad_call rfl rfl rfl Try.call94 (fun w hS hR => MMul_v m gp _ HOK.out (HPM.out.keep hS.fr id) y z z1 Hz1.out) (fun _ => rfl) ?_
  try simp only [Act.put, List.setIfInBounds_toArray, List.set_cons_zero, List.set_cons_succ]
  refine lad_j List.mem_cons_self fun g12 => ?_
  simp only [upd, reduceIte]
  try simp only [Nat.reduceEqDiff, reduceIte]
  refine lad_end fun xq w23 st23 hR => ?_
  try dsimp only
  clear hR xq
  refine plan_m rfl rfl ?_
  refine wp_storeS st23 9 rfl rfl rfl rfl (by simp [cw_len]) (by kernel_rfl) (cw_one _ _) ?_
  intro w24 st24
  repeat (first | simp only [List.cons_append] at st24 | simp only [List.nil_append] at st24 | simp only [List.set_cons_succ] at st24 | simp only [List.set_cons_zero] at st24)
  clear st23
  try simp only [Act.put]
  refine plan_end ?_
  refine NoPanic.normal ?_
  go_wp2_with fail
  refine wp_region_noPanic ?_
  refine wp_region_lad st24 28 [.t 0, .w 1, .w 2, .w 3, .t 4, .w 5, .w 6, .w 7, .t 8, .t 9, .w 10, .w 11, .w 12, .t 13, .t 14, .t 15, .t 18, .w 20, .w 21, .w 22, .t 23, .t 24, .t 25, .c 16, .c 17, .c 19, .c 26, .w 27] (.m 28 .nil) (by kernel_rfl) (by kernel_rfl) (fun _ _ _ _ _ h => h) ?_
  clear st24
  refine lad_arr rfl rfl rfl (fun _ => rfl) (cw 4 (elN m X)) (fun wx hS => St.rangeL hS 7 rfl 0 _ (by rw [List.drop_zero, List.take_of_length_le (Nat.le_refl _)])) Try.underlying70 rfl (by kernel_rfl) ?_
  try simp only [Act.put, List.setIfInBounds_toArray, List.set_cons_zero, List.set_cons_succ]
  iterate 3 (refine lad_w (v := ?_) rfl rfl (fun xq wx => ?_) ?_; rotate_left 1; · (go_simp; with_reducible rfl); try simp only [Act.put, List.setIfInBounds_toArray, List.set_cons_zero, List.set_cons_succ])
  refine lad_t (v := ?_) rfl rfl (fun xq wx hS => ?_) ?_
  rotate_left 1
  · (have hc := (HCV.out.keep (St.fr hS) id).cell (i := 0) rfl; clear hS; go_simp; with_reducible rfl)
  try simp only [Act.put, List.setIfInBounds_toArray, List.set_cons_zero, List.set_cons_succ]
  iterate 3 (refine lad_w (v := ?_) rfl rfl (fun xq wx => ?_) ?_; rotate_left 1; · (go_simp; with_reducible rfl); try simp only [Act.put, List.setIfInBounds_toArray, List.set_cons_zero, List.set_cons_succ])
  refine lad_t (v := ?_) rfl rfl (fun xq wx hS => ?_) ?_
  rotate_left 1
  · (have hc := (HCV.out.keep (St.fr hS) id).cell (i := 0) rfl; clear hS; go_simp; with_reducible rfl)
  try simp only [Act.put, List.setIfInBounds_toArray, List.set_cons_zero, List.set_cons_succ]
  refine lad_arr rfl rfl rfl (fun _ => rfl) (cw 4 (elN m ee)) (fun wx hS => St.rangeL hS 6 rfl 0 _ (by rw [List.drop_zero, List.take_of_length_le (Nat.le_refl _)])) Try.underlying70 rfl (by kernel_rfl) ?_
  try simp only [Act.put, List.setIfInBounds_toArray, List.set_cons_zero, List.set_cons_succ]
  iterate 3 (refine lad_w (v := ?_) rfl rfl (fun xq wx => ?_) ?_; rotate_left 1; · (go_simp; with_reducible rfl); try simp only [Act.put, List.setIfInBounds_toArray, List.set_cons_zero, List.set_cons_succ])
  refine lad_t (v := ?_) rfl rfl (fun xq wx hS => ?_) ?_
  rotate_left 1
  · (have hc := (HCV.out.keep (St.fr hS) id).cell (i := 0) rfl; clear hS; go_simp; with_reducible rfl)
  try simp only [Act.put, List.setIfInBounds_toArray, List.set_cons_zero, List.set_cons_succ]
  refine lad_arr rfl rfl rfl (fun _ => rfl) (cw 4 (elN m d)) (fun wx hS => St.rangeL hS 5 rfl 0 _ (by rw [List.drop_zero, List.take_of_length_le (Nat.le_refl _)])) Try.underlying70 rfl (by kernel_rfl) ?_
  try simp only [Act.put, List.setIfInBounds_toArray, List.set_cons_zero, List.set_cons_succ]
  refine lad_arr rfl rfl rfl (fun _ => rfl) (cw 4 (elN m X)) (fun wx hS => St.rangeL hS 7 rfl 0 _ (by rw [List.drop_zero, List.take_of_length_le (Nat.le_refl _)])) Try.underlying70 rfl (by kernel_rfl) ?_
  try simp only [Act.put, List.setIfInBounds_toArray, List.set_cons_zero, List.set_cons_succ]
  refine lad_arr rfl rfl rfl (fun _ => rfl) (cw 4 (elN m k3)) (fun wx hS => St.rangeL hS 8 rfl 0 _ (by rw [List.drop_zero, List.take_of_length_le (Nat.le_refl _)])) Try.underlying70 rfl (by kernel_rfl) ?_
  try simp only [Act.put, List.setIfInBounds_toArray, List.set_cons_zero, List.set_cons_succ]
  iterate 3 (refine lad_w (v := ?_) rfl rfl (fun xq wx => ?_) ?_; rotate_left 1; · (go_simp; with_reducible rfl); try simp only [Act.put, List.setIfInBounds_toArray, List.set_cons_zero, List.set_cons_succ])
  refine lad_t (v := ?_) rfl rfl (fun xq wx hS => ?_) ?_
  rotate_left 1
  · (have hc := (HCV.out.keep (St.fr hS) id).cell (i := 0) rfl; clear hS; go_simp; with_reducible rfl)
  try simp only [Act.put, List.setIfInBounds_toArray, List.set_cons_zero, List.set_cons_succ]
  refine lad_arr rfl rfl rfl (fun _ => rfl) (cw 4 (elN m z1)) (fun wx hS => St.rangeL hS 9 rfl 0 _ (by rw [List.drop_zero, List.take_of_length_le (Nat.le_refl _)])) Try.underlying70 rfl (by kernel_rfl) ?_
  try simp only [Act.put, List.setIfInBounds_toArray, List.set_cons_zero, List.set_cons_succ]
  refine lad_arr rfl rfl rfl (fun _ => rfl) (cw 4 (elN m z1)) (fun wx hS => St.rangeL hS 9 rfl 0 _ (by rw [List.drop_zero, List.take_of_length_le (Nat.le_refl _)])) Try.underlying70 rfl (by kernel_rfl) ?_
  try simp only [Act.put, List.setIfInBounds_toArray, List.set_cons_zero, List.set_cons_succ]
  refine lad_call rfl rfl rfl Try.call95 (fun w hS hR => MSub_v m gp _ HOK.out (HPM.out.keep hS.fr id) d X h1 Hh1.out) (fun _ => rfl) ?_
  try simp only [Act.put, List.setIfInBounds_toArray, List.set_cons_zero, List.set_cons_succ]
  refine lad_call rfl rfl rfl Try.call94 (fun w hS hR => MMul_v m gp _ HOK.out (HPM.out.keep hS.fr id) ee h1 h2 Hh2.out) (fun _ => rfl) ?_
  try simp only [Act.put, List.setIfInBounds_toArray, List.set_cons_zero, List.set_cons_succ]
  refine lad_call rfl rfl rfl Try.call95 (fun w hS hR => MSub_v m gp _ HOK.out (HPM.out.keep hS.fr id) h2 k3 Y HY.out) (fun _ => rfl) ?_
  try simp only [Act.put, List.setIfInBounds_toArray, List.set_cons_zero, List.set_cons_succ]
  refine lad_call rfl rfl rfl Try.call98 (fun w hS hR => MAdd_v m gp _ HOK.out (HPM.out.keep hS.fr id) z1 z1 Z HZ.out) (fun _ => rfl) ?_
  try simp only [Act.put, List.setIfInBounds_toArray, List.set_cons_zero, List.set_cons_succ]
  refine lad_w rfl rfl (fun _ => exec_build rfl _ (built_pt _ _ _)) ?_
  try simp only [Act.put, List.setIfInBounds_toArray, List.set_cons_zero, List.set_cons_succ]
  refine lad_end fun xq w25 st25 hR => ?_
  try dsimp only
  clear hR xq
  refine plan_m rfl rfl ?_
  refine wp_storeS st25 1 rfl rfl rfl rfl (by simp [cw_len]) (by kernel_rfl) (pt_one _ _ _) ?_
  intro w26 st26
  repeat (first | simp only [List.cons_append] at st26 | simp only [List.nil_append] at st26 | simp only [List.set_cons_succ] at st26 | simp only [List.set_cons_zero] at st26)
  clear st25
  try simp only [Act.put]
  refine plan_end ?_
  refine NoPanic.normal ?_
  have hr := st26.at 1 rfl
  have hfr := st26.fr
  clear st26
  go_wp2_with fail
  exact bodyPost_ret (results_st rfl rfl hr Try.underlying72 rfl (by kernel_rfl)) rfl ⟨rfl, hfr⟩
end Go.Proofs.Ytdbgddngapminaa

/- A program's point: what it stands for; its double as the group's. -/
namespace Mvq
open Mvp
/-- the point that three numbers stand for -/
def jN (x y z : Nat) : Pt := jk (kc x) (kc y) (kc z)
theorem kc_sub' (M : Nat) (hM : M = fP) (a b : Nat) : kc (a + (M - b % M)) = kc a - kc b := by subst hM; exact kc_subn a b
theorem z_is (M : Nat) (hM : M = fP) (z : Nat) (b : Bool) (h : (z % M == 0) = b) : decide (kc z = 0) = b := by subst hM; rw [← kc_eqz]; exact h
theorem mP_fP : mP.M = fP := pP_fP
end Mvq
namespace Go.Proofs.Ytdbgddngapminaa
open Go.RowKit Go.Mv Mvp Mvq
/-- double: of any point of the curve -/
theorem double_is (x y z : Nat) (ho : onC (jN x y z)) :
    ∃ X Y Z, jN X Y Z = padd (jN x y z) (jN x y z) ∧ ∀ gc gp bx by_ wx, Has wx gc (crvL mP gp bx by_) 93 → Has wx gp (mdL mP) 134 → Calls Try.prog 97 #[.pointer (some ⟨gc, 0, none⟩), ptV mP x y z] wx fun e w' => e = .returned (ptV mP X Y Z) ∧ Fr Nob wx w' := by
  cases hb : (z % mP.M == 0)
  · have hz : kc z ≠ 0 := by
      have := z_is _ mP_fP z _ hb
      simpa using this
    refine ⟨_, _, _, ?_, fun gc gp bx by_ wx hcv hpm => double_v mP gc gp bx by_ wx mP_ok hcv hpm x y z hb _ _ _ _ _ _ _ _ _ _ _ _ _ _ _ _ _ _ _ _ _ rfl rfl rfl rfl rfl rfl rfl rfl rfl rfl rfl rfl rfl rfl rfl rfl rfl rfl rfl rfl rfl⟩
    have h := jk_double ho hz _ _ _ _ _ _ rfl rfl rfl rfl rfl rfl
    unfold jN at *
    rw [← h]
    simp only [kc_sub' _ mP_fP, kc_addn, kc_mul']
    generalize kc x = a; generalize kc y = b; generalize kc z = c
    congr 1
    · grind -lia -linarith
    · grind -lia -linarith
    · grind -lia -linarith
  · have hz : kc z = 0 := by
      have := z_is _ mP_fP z _ hb
      simpa using this
    refine ⟨x, y, z, ?_, fun gc gp bx by_ wx hcv hpm => double_none mP gc gp bx by_ wx mP_ok hcv hpm x y z hb⟩
    unfold jN
    rw [jk_z hz]; rfl
end Go.Proofs.Ytdbgddngapminaa

/- group: nothing, plus. -/
namespace Go.Proofs.Ytdbgddngapminaa
open Go.RowKit Go.Mv Mvp
attribute [local irreducible] limbs lw mix cw cSub cAdd cMul foldC valFrom beN laid be32 powm montT mstep elN mdL numB
set_option maxHeartbeats 16000000 in
set_option maxRecDepth 1000000 in
theorem nothing_any (m : Md) (gc gp bx by_ : Nat) (w : World) (hok : m.Ok) (hcv : Has w gc (crvL m gp bx by_) 93) (hpm : Has w gp (mdL m) 134) :
    Calls Try.prog 88 #[.pointer (some ⟨gc, 0, none⟩)] w fun e w' => e = .returned (ptV m 1 1 0) ∧ Fr Nob w w' := by
  have HOK := Lib.hid hok
  have HCV := Lib.hid hcv
  have HPM := Lib.hid hpm
  clear hok hcv hpm
  have st0 := St.start Nob w
  go_enter Try.func88, Try.ntmps88
  go_wp2_with (with_reducible refine wl_stop (o := ⟨some 2, _, _, _, _, _⟩) ?_)
  refine wl_allocS st0 rfl rfl (z := .agg #[.int .u64 0, .int .u64 0, .int .u64 0, .int .u64 0, .int .u64 0, .int .u64 0, .int .u64 0, .int .u64 0, .int .u64 0, .int .u64 0, .int .u64 0, .int .u64 0]) (by kernel_rfl) (cw 12 0) (by rw [cw_zero]; rfl) ?_
  intro g2 w1 st1
  clear st0
  go_wp2_with fail
  refine wp_region_noPanic ?_
  refine wp_region_lad st1 11 [.w 0, .w 1, .w 2, .t 3, .w 5, .w 6, .w 7, .t 8, .c 4, .c 9, .w 10] (.m 11 .nil) (by kernel_rfl) (by kernel_rfl) (fun _ _ _ _ _ h => h) ?_
  clear st1
  iterate 3 (refine lad_w (v := ?_) rfl rfl (fun xq wx => ?_) ?_; rotate_left 1; · (go_simp; with_reducible rfl); try simp only [Act.put, List.setIfInBounds_toArray, List.set_cons_zero, List.set_cons_succ])
  refine lad_t (v := ?_) rfl rfl (fun xq wx hS => ?_) ?_
  rotate_left 1
  · (have hc := (HCV.out.keep (St.fr hS) id).cell (i := 0) rfl; clear hS; go_simp; with_reducible rfl)
  try simp only [Act.put, List.setIfInBounds_toArray, List.set_cons_zero, List.set_cons_succ]
  iterate 3 (refine lad_w (v := ?_) rfl rfl (fun xq wx => ?_) ?_; rotate_left 1; · (go_simp; with_reducible rfl); try simp only [Act.put, List.setIfInBounds_toArray, List.set_cons_zero, List.set_cons_succ])
  refine lad_t (v := ?_) rfl rfl (fun xq wx hS => ?_) ?_
  rotate_left 1
  · (have hc := (HCV.out.keep (St.fr hS) id).cell (i := 0) rfl; clear hS; go_simp; with_reducible rfl)
  try simp only [Act.put, List.setIfInBounds_toArray, List.set_cons_zero, List.set_cons_succ]
  refine lad_call rfl rfl rfl Try.call86 (fun w hS hR => MOne_any m gp _ HOK.out (HPM.out.keep hS.fr id)) (fun _ => rfl) ?_
  try simp only [Act.put, List.setIfInBounds_toArray, List.set_cons_zero, List.set_cons_succ]
  refine lad_call rfl rfl rfl Try.call86 (fun w hS hR => MOne_any m gp _ HOK.out (HPM.out.keep hS.fr id)) (fun _ => rfl) ?_
  try simp only [Act.put, List.setIfInBounds_toArray, List.set_cons_zero, List.set_cons_succ]
  refine lad_w rfl rfl (fun _ => exec_build rfl _ (built_pt2 _ _)) ?_
  try simp only [Act.put, List.setIfInBounds_toArray, List.set_cons_zero, List.set_cons_succ]
  refine lad_end fun xq w2 st2 hR => ?_
  try dsimp only
  clear hR xq
  refine plan_m rfl rfl ?_
  refine wp_storeS st2 0 rfl rfl rfl rfl (by simp [cw_len]) (by kernel_rfl) (pt_one _ _ _) ?_
  intro w3 st3
  repeat (first | simp only [List.cons_append] at st3 | simp only [List.nil_append] at st3 | simp only [List.set_cons_succ] at st3 | simp only [List.set_cons_zero] at st3)
  clear st2
  try simp only [Act.put]
  refine plan_end ?_
  refine NoPanic.normal ?_
  have hr := st3.at 0 rfl
  have hfr := st3.fr
  clear st3
  go_wp2_with fail
  exact bodyPost_ret (results_st rfl rfl hr Try.underlying72 rfl (by kernel_rfl)) rfl ⟨by unfold ptV ptL; rw [el_zero], hfr⟩

theorem nothing_u (m : Md) (gc gp bx by_ : Nat) (w : World) (hok : m.Ok) (hcv : Has w gc (crvL m gp bx by_) 93) (hpm : Has w gp (mdL m) 134) :
    Calls Try.prog 88 #[.pointer (some ⟨gc, 0, none⟩)] w fun e w' => e = .returned (.agg (cw 4 (elN m 1) ++ (cw 4 (elN m 1) ++ cw 4 (elN m 0))).toArray) ∧ Fr Nob w w' := nothing_any m gc gp bx by_ w hok hcv hpm

set_option maxHeartbeats 16000000 in
set_option maxRecDepth 1000000 in
theorem plus_none1 (m : Md) (gc gp bx by_ : Nat) (w : World) (hok : m.Ok) (hcv : Has w gc (crvL m gp bx by_) 93) (hpm : Has w gp (mdL m) 134) (x1 y1 z1 x2 y2 z2 : Nat) (hb1 : (z1 % m.M == 0) = true) :
    Calls Try.prog 45 #[.pointer (some ⟨gc, 0, none⟩), ptV m x1 y1 z1, ptV m x2 y2 z2] w fun e w' => e = .returned (ptV m x2 y2 z2) ∧ Fr Nob w w' := by
  have HOK := Lib.hid hok
  have HCV := Lib.hid hcv
  have HPM := Lib.hid hpm
  clear hok hcv hpm
  have HB1 := Lib.hid hb1
  clear hb1
  unfold ptV ptL
  have st0 := St.start Nob w
  go_enter Try.func45, Try.ntmps45
  go_wp2_with (with_reducible refine wl_stop (o := ⟨some 4, _, _, _, _, _⟩) ?_)
  refine wl_boxS st0 rfl rfl rfl (cw 4 (elN m x1) ++ (cw 4 (elN m y1) ++ cw 4 (elN m z1))) rfl ?_
  intro g4 w1 st1
  clear st0
  go_wp2_with (with_reducible refine wl_stop (o := ⟨some 5, _, _, _, _, _⟩) ?_)
  refine wl_boxS st1 rfl rfl rfl (cw 4 (elN m x2) ++ (cw 4 (elN m y2) ++ cw 4 (elN m z2))) rfl ?_
  intro g5 w2 st2
  clear st1
  go_wp2_with (with_reducible refine wl_stop (o := ⟨some 6, _, _, _, _, _⟩) ?_)
  refine wl_allocS st2 rfl rfl (z := .agg #[.int .u64 0, .int .u64 0, .int .u64 0, .int .u64 0, .int .u64 0, .int .u64 0, .int .u64 0, .int .u64 0, .int .u64 0, .int .u64 0, .int .u64 0, .int .u64 0]) (by kernel_rfl) (cw 12 0) (by rw [cw_zero]; rfl) ?_
  intro g6 w3 st3
  clear st2
  go_wp2_with (with_reducible refine wl_stop (o := ⟨some 20, _, _, _, _, _⟩) ?_)
  refine wl_loadSt st3 0 rfl rfl rfl Try.underlying72 rfl rfl (by kernel_rfl) ?_
  go_wp2_with fail
  refine (none_any m HOK.out x1 y1 z1 true HB1.out _).mono ?_
  rintro e' w4 ⟨rfl, hf4⟩
  have st4 := st3.keep hf4
  clear st3 hf4
  go_wp2_with (with_reducible refine wl_stop (o := ⟨some 22, _, _, _, _, _⟩) ?_)
  refine wl_loadSt st4 1 rfl rfl rfl Try.underlying72 rfl rfl (by kernel_rfl) ?_
  go_wp2_with (with_reducible refine wl_stop (o := ⟨none, _, _, _, _, _⟩) ?_)
  refine wl_storeS st4 2 rfl rfl rfl rfl rfl (by simp [cw_len]) (by kernel_rfl) (pt_one _ _ _) ?_
  intro w5 st5
  clear st4
  have hr := st5.at 2 rfl
  have hfr := st5.fr
  clear st5
  go_wp2_with fail
  exact bodyPost_ret (results_st rfl rfl hr Try.underlying72 rfl (by kernel_rfl)) rfl ⟨rfl, hfr⟩

set_option maxHeartbeats 16000000 in
set_option maxRecDepth 1000000 in
theorem plus_none2 (m : Md) (gc gp bx by_ : Nat) (w : World) (hok : m.Ok) (hcv : Has w gc (crvL m gp bx by_) 93) (hpm : Has w gp (mdL m) 134) (x1 y1 z1 x2 y2 z2 : Nat) (hb1 : (z1 % m.M == 0) = false) (hb2 : (z2 % m.M == 0) = true) :
    Calls Try.prog 45 #[.pointer (some ⟨gc, 0, none⟩), ptV m x1 y1 z1, ptV m x2 y2 z2] w fun e w' => e = .returned (ptV m x1 y1 z1) ∧ Fr Nob w w' := by
  have HOK := Lib.hid hok
  have HCV := Lib.hid hcv
  have HPM := Lib.hid hpm
  clear hok hcv hpm
  have HB1 := Lib.hid hb1
  have HB2 := Lib.hid hb2
  clear hb1 hb2
  unfold ptV ptL
  have st0 := St.start Nob w
  go_enter Try.func45, Try.ntmps45
  go_wp2_with (with_reducible refine wl_stop (o := ⟨some 4, _, _, _, _, _⟩) ?_)
  refine wl_boxS st0 rfl rfl rfl (cw 4 (elN m x1) ++ (cw 4 (elN m y1) ++ cw 4 (elN m z1))) rfl ?_
  intro g4 w1 st1
  clear st0
  go_wp2_with (with_reducible refine wl_stop (o := ⟨some 5, _, _, _, _, _⟩) ?_)
  refine wl_boxS st1 rfl rfl rfl (cw 4 (elN m x2) ++ (cw 4 (elN m y2) ++ cw 4 (elN m z2))) rfl ?_
  intro g5 w2 st2
  clear st1
  go_wp2_with (with_reducible refine wl_stop (o := ⟨some 6, _, _, _, _, _⟩) ?_)
  refine wl_allocS st2 rfl rfl (z := .agg #[.int .u64 0, .int .u64 0, .int .u64 0, .int .u64 0, .int .u64 0, .int .u64 0, .int .u64 0, .int .u64 0, .int .u64 0, .int .u64 0, .int .u64 0, .int .u64 0]) (by kernel_rfl) (cw 12 0) (by rw [cw_zero]; rfl) ?_
  intro g6 w3 st3
  clear st2
  go_wp2_with (with_reducible refine wl_stop (o := ⟨some 20, _, _, _, _, _⟩) ?_)
  refine wl_loadSt st3 0 rfl rfl rfl Try.underlying72 rfl rfl (by kernel_rfl) ?_
  go_wp2_with fail
  refine (none_any m HOK.out x1 y1 z1 false HB1.out _).mono ?_
  rintro e' w4 ⟨rfl, hf4⟩
  have st4 := st3.keep hf4
  clear st3 hf4
  go_wp2_with (with_reducible refine wl_stop (o := ⟨some 24, _, _, _, _, _⟩) ?_)
  refine wl_loadSt st4 1 rfl rfl rfl Try.underlying72 rfl rfl (by kernel_rfl) ?_
  go_wp2_with fail
  refine (none_any m HOK.out x2 y2 z2 true HB2.out _).mono ?_
  rintro e' w5 ⟨rfl, hf5⟩
  have st5 := st4.keep hf5
  clear st4 hf5
  go_wp2_with (with_reducible refine wl_stop (o := ⟨some 26, _, _, _, _, _⟩) ?_)
  refine wl_loadSt st5 0 rfl rfl rfl Try.underlying72 rfl rfl (by kernel_rfl) ?_
  go_wp2_with (with_reducible refine wl_stop (o := ⟨none, _, _, _, _, _⟩) ?_)
  refine wl_storeS st5 2 rfl rfl rfl rfl rfl (by simp [cw_len]) (by kernel_rfl) (pt_one _ _ _) ?_
  intro w6 st6
  clear st5
  have hr := st6.at 2 rfl
  have hfr := st6.fr
  clear st6
  go_wp2_with fail
  exact bodyPost_ret (results_st rfl rfl hr Try.underlying72 rfl (by kernel_rfl)) rfl ⟨rfl, hfr⟩
end Go.Proofs.Ytdbgddngapminaa

/- group: plus, of two points that are not nothing. -/
namespace Go.Proofs.Ytdbgddngapminaa
open Go.RowKit Go.Mv Mvp
attribute [local irreducible] limbs lw mix cw cSub cAdd cMul foldC valFrom beN laid be32 powm montT mstep elN mdL numB
/-- what plus answers of two points that are not nothing -/
def plusV (b c : Bool) (u v x : Value) : Value := match b, c with
  | false, _ => x
  | true, false => v
  | true, true => u

set_option maxHeartbeats 16000000 in
set_option maxRecDepth 1000000 in
theorem gplus_any (m : Md) (gc gp bx by_ : Nat) (w : World) (hok : m.Ok) (hcv : Has w gc (crvL m gp bx by_) 93) (hpm : Has w gp (mdL m) 134) (x1 y1 z1 x2 y2 z2 : Nat) (hb1 : (z1 % m.M == 0) = false) (hb2 : (z2 % m.M == 0) = false) (pp qq u1 u2 q3 s1 p3 s2 hd rr hh h3 v r2 v2 t1 X t2 t3 t4 Y zz Z DX DY DZ : Nat) (epp : z1 * z1 = pp) (eqq : z2 * z2 = qq) (eu1 : x1 * qq = u1) (eu2 : x2 * pp = u2) (eq3 : qq * z2 = q3) (es1 : y1 * q3 = s1) (ep3 : pp * z1 = p3) (es2 : y2 * p3 = s2) (ehd : u2 + (m.M - u1 % m.M) = hd) (err : s2 + (m.M - s1 % m.M) = rr) (ehh : hd * hd = hh) (eh3 : hh * hd = h3) (ev : u1 * hh = v) (er2 : rr * rr = r2) (ev2 : v + v = v2) (et1 : h3 + v2 = t1) (eX : r2 + (m.M - t1 % m.M) = X) (et2 : v + (m.M - X % m.M) = t2) (et3 : rr * t2 = t3) (et4 : s1 * h3 = t4) (eY : t3 + (m.M - t4 % m.M) = Y) (ezz : z1 * z2 = zz) (eZ : hd * zz = Z) (hd0 : ((hd % m.M == 0) = true → (rr % m.M == 0) = true → ∀ wx, Fr Nob w wx → Calls Try.prog 97 #[.pointer (some ⟨gc, 0, none⟩), ptV m x1 y1 z1] wx fun e w' => e = .returned (ptV m DX DY DZ) ∧ Fr Nob wx w')) :
    Calls Try.prog 45 #[.pointer (some ⟨gc, 0, none⟩), ptV m x1 y1 z1, ptV m x2 y2 z2] w fun e w' => e = .returned (plusV (hd % m.M == 0) (rr % m.M == 0) (ptV m DX DY DZ) (ptV m 1 1 0) (ptV m X Y Z)) ∧ Fr Nob w w' := by
  have HOK := Lib.hid hok
  have HCV := Lib.hid hcv
  have HPM := Lib.hid hpm
  clear hok hcv hpm
  have HB1 := Lib.hid hb1
  have HB2 := Lib.hid hb2
  have Hpp := Lib.hid epp
  have Hqq := Lib.hid eqq
  have Hu1 := Lib.hid eu1
  have Hu2 := Lib.hid eu2
  have Hq3 := Lib.hid eq3
  have Hs1 := Lib.hid es1
  have Hp3 := Lib.hid ep3
  have Hs2 := Lib.hid es2
  have Hhd := Lib.hid ehd
  have Hrr := Lib.hid err
  have Hhh := Lib.hid ehh
  have Hh3 := Lib.hid eh3
  have Hv := Lib.hid ev
  have Hr2 := Lib.hid er2
  have Hv2 := Lib.hid ev2
  have Ht1 := Lib.hid et1
  have HX := Lib.hid eX
  have Ht2 := Lib.hid et2
  have Ht3 := Lib.hid et3
  have Ht4 := Lib.hid et4
  have HY := Lib.hid eY
  have Hzz := Lib.hid ezz
  have HZ := Lib.hid eZ
  have HD0 := Lib.hid hd0
  clear hd0 hb1 hb2 epp eqq eu1 eu2 eq3 es1 ep3 es2 ehd err ehh eh3 ev er2 ev2 et1 eX et2 et3 et4 eY ezz eZ
  unfold ptV ptL
  have st0 := St.start Nob w
  go_enter Try.func45, Try.ntmps45
  go_wp2_with (with_reducible refine wl_stop (o := ⟨some 4, _, _, _, _, _⟩) ?_)
  refine wl_boxS st0 rfl rfl rfl (cw 4 (elN m x1) ++ (cw 4 (elN m y1) ++ cw 4 (elN m z1))) rfl ?_
  intro g4 w1 st1
  clear st0
  go_wp2_with (with_reducible refine wl_stop (o := ⟨some 5, _, _, _, _, _⟩) ?_)
  refine wl_boxS st1 rfl rfl rfl (cw 4 (elN m x2) ++ (cw 4 (elN m y2) ++ cw 4 (elN m z2))) rfl ?_
  intro g5 w2 st2
  clear st1
  go_wp2_with (with_reducible refine wl_stop (o := ⟨some 6, _, _, _, _, _⟩) ?_)
  refine wl_allocS st2 rfl rfl (z := .agg #[.int .u64 0, .int .u64 0, .int .u64 0, .int .u64 0, .int .u64 0, .int .u64 0, .int .u64 0, .int .u64 0, .int .u64 0, .int .u64 0, .int .u64 0, .int .u64 0]) (by kernel_rfl) (cw 12 0) (by rw [cw_zero]; rfl) ?_
  intro g6 w3 st3
  clear st2
  go_wp2_with (with_reducible refine wl_stop (o := ⟨some 20, _, _, _, _, _⟩) ?_)
  refine wl_loadSt st3 0 rfl rfl rfl Try.underlying72 rfl rfl (by kernel_rfl) ?_
  go_wp2_with fail
  refine (none_any m HOK.out x1 y1 z1 false HB1.out _).mono ?_
  rintro e' w4 ⟨rfl, hf4⟩
  have st4 := st3.keep hf4
  clear st3 hf4
  go_wp2_with (with_reducible refine wl_stop (o := ⟨some 24, _, _, _, _, _⟩) ?_)
  refine wl_loadSt st4 1 rfl rfl rfl Try.underlying72 rfl rfl (by kernel_rfl) ?_
  go_wp2_with fail
  refine (none_any m HOK.out x2 y2 z2 false HB2.out _).mono ?_
  rintro e' w5 ⟨rfl, hf5⟩
  have st5 := st4.keep hf5
  clear st4 hf5
  go_wp2_with fail
  refine wp_region_noPanic ?_
  refine wp_region_lad st5 17 [.o 14, .o 15, .w 0, .w 1, .w 2, .t 3, .w 4, .t 5, .w 7, .w 8, .w 9, .t 10, .w 11, .t 12, .c 6, .c 13, .j 14, .j 15] (.r 16 (.m 17 .nil)) (by kernel_rfl) (by kernel_rfl) (fun _ _ _ _ _ h => h) ?_
  clear st5
  refine lad_o rfl rfl rfl z_ge (cw 4 0) rfl ?_
  try simp only [Act.put, List.setIfInBounds_toArray, List.set_cons_zero, List.set_cons_succ]
  refine lad_o rfl rfl rfl z_ge (cw 4 0) rfl ?_
  try simp only [Act.put, List.setIfInBounds_toArray, List.set_cons_zero, List.set_cons_succ]
  refine lad_w (v := ?_) rfl rfl (fun xq wx => ?_) ?_
  rotate_left 1
  · (go_simp; with_reducible rfl)
  try simp only [Act.put, List.setIfInBounds_toArray, List.set_cons_zero, List.set_cons_succ]
  refine lad_w (v := ?_) rfl rfl (fun xq wx => ?_) ?_
  rotate_left 1
  · (go_simp; with_reducible rfl)
  try simp only [Act.put, List.setIfInBounds_toArray, List.set_cons_zero, List.set_cons_succ]
  refine lad_w (v := ?_) rfl rfl (fun xq wx => ?_) ?_
  rotate_left 1
  · (go_simp; with_reducible rfl)
  try simp only [Act.put, List.setIfInBounds_toArray, List.set_cons_zero, List.set_cons_succ]
  refine lad_t (v := ?_) rfl rfl (fun xq wx hS => ?_) ?_
  rotate_left 1
  · (have hc := (HCV.out.keep (St.fr hS) id).cell (i := 0) rfl; clear hS; go_simp; with_reducible rfl)
  try simp only [Act.put, List.setIfInBounds_toArray, List.set_cons_zero, List.set_cons_succ]
  refine lad_w (v := ?_) rfl rfl (fun xq wx => ?_) ?_
  rotate_left 1
  · (go_simp; with_reducible rfl)
  try simp only [Act.put, List.setIfInBounds_toArray, List.set_cons_zero, List.set_cons_succ]
  refine lad_arr rfl rfl rfl (fun _ => rfl) (cw 4 (elN m z1)) (fun wx hS => St.rangeL hS 0 rfl 8 _ (pt_z _ _ _)) Try.underlying70 rfl (by kernel_rfl) ?_
  try simp only [Act.put, List.setIfInBounds_toArray, List.set_cons_zero, List.set_cons_succ]
  refine lad_w (v := ?_) rfl rfl (fun xq wx => ?_) ?_
  rotate_left 1
  · (go_simp; with_reducible rfl)
  try simp only [Act.put, List.setIfInBounds_toArray, List.set_cons_zero, List.set_cons_succ]
  refine lad_w (v := ?_) rfl rfl (fun xq wx => ?_) ?_
  rotate_left 1
  · (go_simp; with_reducible rfl)
  try simp only [Act.put, List.setIfInBounds_toArray, List.set_cons_zero, List.set_cons_succ]
  refine lad_w (v := ?_) rfl rfl (fun xq wx => ?_) ?_
  rotate_left 1
  · (go_simp; with_reducible rfl)
  try simp only [Act.put, List.setIfInBounds_toArray, List.set_cons_zero, List.set_cons_succ]
  refine lad_t (v := ?_) rfl rfl (fun xq wx hS => ?_) ?_
  rotate_left 1
  · (have hc := (HCV.out.keep (St.fr hS) id).cell (i := 0) rfl; clear hS; go_simp; with_reducible rfl)
  try simp only [Act.put, List.setIfInBounds_toArray, List.set_cons_zero, List.set_cons_succ]
  refine lad_w (v := ?_) rfl rfl (fun xq wx => ?_) ?_
  rotate_left 1
  · (go_simp; with_reducible rfl)
  try simp only [Act.put, List.setIfInBounds_toArray, List.set_cons_zero, List.set_cons_succ]
  refine lad_arr rfl rfl rfl (fun _ => rfl) (cw 4 (elN m z2)) (fun wx hS => St.rangeL hS 1 rfl 8 _ (pt_z _ _ _)) Try.underlying70 rfl (by kernel_rfl) ?_
  try simp only [Act.put, List.setIfInBounds_toArray, List.set_cons_zero, List.set_cons_succ]
  refine lad_call rfl rfl rfl Try.call93 (fun w hS hR => MSquare_v m gp _ HOK.out (HPM.out.keep hS.fr id) z1 pp Hpp.out) (fun _ => rfl) ?_
  try simp only [Act.put, List.setIfInBounds_toArray, List.set_cons_zero, List.set_cons_succ]
  refine lad_call rfl rfl rfl Try.call93 (fun w hS hR => MSquare_v m gp _ HOK.out (HPM.out.keep hS.fr id) z2 qq Hqq.out) (fun _ => rfl) ?_
  try simp only [Act.put, List.setIfInBounds_toArray, List.set_cons_zero, List.set_cons_succ]
  refine lad_j (List.mem_cons_of_mem _ List.mem_cons_self) fun g7 => ?_
  simp only [upd, reduceIte]
  try simp only [Nat.reduceEqDiff, reduceIte]
  refine lad_j List.mem_cons_self fun g8 => ?_
  simp only [upd, reduceIte]
  try simp only [Nat.reduceEqDiff, reduceIte]
  refine lad_end fun xq w6 st6 hR => ?_
  try dsimp only
  clear hR xq
  refine plan_r rfl rfl ?_
  refine wp_storeS st6 3 rfl rfl rfl rfl (by simp [cw_len]) (by kernel_rfl) (cw_one _ _) ?_
  intro w7 st7
  repeat (first | simp only [List.cons_append] at st7 | simp only [List.nil_append] at st7 | simp only [List.set_cons_succ] at st7 | simp only [List.set_cons_zero] at st7)
  clear st6
  refine ⟨by first | exact st7 | exact St.less st7 (by simp), ?_⟩
  try simp only [Act.put]
  refine plan_m rfl rfl ?_
  refine wp_storeS st7 4 rfl rfl rfl rfl (by simp [cw_len]) (by kernel_rfl) (cw_one _ _) ?_
  intro w8 st8
  repeat (first | simp only [List.cons_append] at st8 | simp only [List.nil_append] at st8 | simp only [List.set_cons_succ] at st8 | simp only [List.set_cons_zero] at st8)
  clear st7
  try simp only [Act.put]
  refine plan_end ?_
  refine NoPanic.normal ?_
  go_wp2_with fail
  refine wp_region_noPanic ?_
  refine wp_region_lad st8 19 [.o 16, .o 17, .w 0, .w 1, .w 2, .t 3, .w 4, .t 5, .t 6, .w 8, .w 9, .w 10, .t 11, .w 12, .t 13, .t 14, .c 7, .c 15, .j 16, .j 17] (.r 18 (.m 19 .nil)) (by kernel_rfl) (by kernel_rfl) (fun _ _ _ _ _ h => h) ?_
  clear st8
  refine lad_o rfl rfl rfl z_ge (cw 4 0) rfl ?_
  try simp only [Act.put, List.setIfInBounds_toArray, List.set_cons_zero, List.set_cons_succ]
  refine lad_o rfl rfl rfl z_ge (cw 4 0) rfl ?_
  try simp only [Act.put, List.setIfInBounds_toArray, List.set_cons_zero, List.set_cons_succ]
  refine lad_w (v := ?_) rfl rfl (fun xq wx => ?_) ?_
  rotate_left 1
  · (go_simp; with_reducible rfl)
  try simp only [Act.put, List.setIfInBounds_toArray, List.set_cons_zero, List.set_cons_succ]
  refine lad_w (v := ?_) rfl rfl (fun xq wx => ?_) ?_
  rotate_left 1
  · (go_simp; with_reducible rfl)
  try simp only [Act.put, List.setIfInBounds_toArray, List.set_cons_zero, List.set_cons_succ]
  refine lad_w (v := ?_) rfl rfl (fun xq wx => ?_) ?_
  rotate_left 1
  · (go_simp; with_reducible rfl)
  try simp only [Act.put, List.setIfInBounds_toArray, List.set_cons_zero, List.set_cons_succ]
  refine lad_t (v := ?_) rfl rfl (fun xq wx hS => ?_) ?_
  rotate_left 1
  · (have hc := (HCV.out.keep (St.fr hS) id).cell (i := 0) rfl; clear hS; go_simp; with_reducible rfl)
  try simp only [Act.put, List.setIfInBounds_toArray, List.set_cons_zero, List.set_cons_succ]
  refine lad_w (v := ?_) rfl rfl (fun xq wx => ?_) ?_
  rotate_left 1
  · (go_simp; with_reducible rfl)
  try simp only [Act.put, List.setIfInBounds_toArray, List.set_cons_zero, List.set_cons_succ]
  refine lad_arr rfl rfl rfl (fun _ => rfl) (cw 4 (elN m x1)) (fun wx hS => St.rangeL hS 0 rfl 0 _ (pt_x _ _ _)) Try.underlying70 rfl (by kernel_rfl) ?_
  try simp only [Act.put, List.setIfInBounds_toArray, List.set_cons_zero, List.set_cons_succ]
  refine lad_arr rfl rfl rfl (fun _ => rfl) (cw 4 (elN m qq)) (fun wx hS => St.rangeL hS 4 rfl 0 _ (by rw [List.drop_zero, List.take_of_length_le (Nat.le_refl _)])) Try.underlying70 rfl (by kernel_rfl) ?_
  try simp only [Act.put, List.setIfInBounds_toArray, List.set_cons_zero, List.set_cons_succ]
  refine lad_w (v := ?_) rfl rfl (fun xq wx => ?_) ?_
  rotate_left 1
  · (go_simp; with_reducible rfl)
  try simp only [Act.put, List.setIfInBounds_toArray, List.set_cons_zero, List.set_cons_succ]
  refine lad_w (v := ?_) rfl rfl (fun xq wx => ?_) ?_
  rotate_left 1
  · (go_simp; with_reducible rfl)
  try simp only [Act.put, List.setIfInBounds_toArray, List.set_cons_zero, List.set_cons_succ]
  refine lad_w (v := ?_) rfl rfl (fun xq wx => ?_) ?_
  rotate_left 1
  · (go_simp; with_reducible rfl)
  try simp only [Act.put, List.setIfInBounds_toArray, List.set_cons_zero, List.set_cons_succ]
  refine lad_t (v := ?_) rfl rfl (fun xq wx hS => ?_) ?_
  rotate_left 1
  · (have hc := (HCV.out.keep (St.fr hS) id).cell (i := 0) rfl; clear hS; go_simp; with_reducible rfl)
  try simp only [Act.put, List.setIfInBounds_toArray, List.set_cons_zero, List.set_cons_succ]
  refine lad_w (v := ?_) rfl rfl (fun xq wx => ?_) ?_
  rotate_left 1
  · (go_simp; with_reducible rfl)
  try simp only [Act.put, List.setIfInBounds_toArray, List.set_cons_zero, List.set_cons_succ]
  refine lad_arr rfl rfl rfl (fun _ => rfl) (cw 4 (elN m x2)) (fun wx hS => St.rangeL hS 1 rfl 0 _ (pt_x _ _ _)) Try.underlying70 rfl (by kernel_rfl) ?_
  try simp only [Act.put, List.setIfInBounds_toArray, List.set_cons_zero, List.set_cons_succ]
  refine lad_arr rfl rfl rfl (fun _ => rfl) (cw 4 (elN m pp)) (fun wx hS => St.rangeL hS 3 rfl 0 _ (by rw [List.drop_zero, List.take_of_length_le (Nat.le_refl _)])) Try.underlying70 rfl (by kernel_rfl) ?_
  try simp only [Act.put, List.setIfInBounds_toArray, List.set_cons_zero, List.set_cons_succ]
  refine lad_call rfl rfl rfl Try.call94 (fun w hS hR => MMul_v m gp _ HOK.out (HPM.out.keep hS.fr id) x1 qq u1 Hu1.out) (fun _ => rfl) ?_
  try simp only [Act.put, List.setIfInBounds_toArray, List.set_cons_zero, List.set_cons_succ]
  refine lad_call rfl rfl rfl Try.call94 (fun w hS hR => MMul_v m gp _ HOK.out (HPM.out.keep hS.fr id) x2 pp u2 Hu2.out) (fun _ => rfl) ?_
  try simp only [Act.put, List.setIfInBounds_toArray, List.set_cons_zero, List.set_cons_succ]
  refine lad_j (List.mem_cons_of_mem _ List.mem_cons_self) fun g9 => ?_
  simp only [upd, reduceIte]
  try simp only [Nat.reduceEqDiff, reduceIte]
  refine lad_j List.mem_cons_self fun g10 => ?_
  simp only [upd, reduceIte]
  try simp only [Nat.reduceEqDiff, reduceIte]
  refine lad_end fun xq w9 st9 hR => ?_
  try dsimp only
  clear hR xq
  refine plan_r rfl rfl ?_
  refine wp_storeS st9 5 rfl rfl rfl rfl (by simp [cw_len]) (by kernel_rfl) (cw_one _ _) ?_
  intro w10 st10
  repeat (first | simp only [List.cons_append] at st10 | simp only [List.nil_append] at st10 | simp only [List.set_cons_succ] at st10 | simp only [List.set_cons_zero] at st10)
  clear st9
  refine ⟨by first | exact st10 | exact St.less st10 (by simp), ?_⟩
  try simp only [Act.put]
  refine plan_m rfl rfl ?_
  refine wp_storeS st10 6 rfl rfl rfl rfl (by simp [cw_len]) (by kernel_rfl) (cw_one _ _) ?_
  intro w11 st11
  repeat (first | simp only [List.cons_append] at st11 | simp only [List.nil_append] at st11 | simp only [List.set_cons_succ] at st11 | simp only [List.set_cons_zero] at st11)
  clear st10
  try simp only [Act.put]
  refine plan_end ?_
  refine NoPanic.normal ?_
  go_wp2_with fail
  refine wp_region_noPanic ?_
  refine wp_region_lad st11 33 [.o 30, .o 31, .w 0, .w 1, .w 2, .t 3, .w 4, .t 5, .w 6, .w 7, .w 8, .t 9, .t 10, .w 11, .t 12, .w 15, .w 16, .w 17, .t 18, .w 19, .t 20, .w 21, .w 22, .w 23, .t 24, .t 25, .w 26, .t 27, .c 13, .c 14, .c 28, .c 29, .j 30, .j 31] (.r 32 (.m 33 .nil)) (by kernel_rfl) (by kernel_rfl) (fun _ _ _ _ _ h => h) ?_
  clear st11
  refine lad_o rfl rfl rfl z_ge (cw 4 0) rfl ?_
  try simp only [Act.put, List.setIfInBounds_toArray, List.set_cons_zero, List.set_cons_succ]
  refine lad_o rfl rfl rfl z_ge (cw 4 0) rfl ?_
  try simp only [Act.put, List.setIfInBounds_toArray, List.set_cons_zero, List.set_cons_succ]
  refine lad_w (v := ?_) rfl rfl (fun xq wx => ?_) ?_
  rotate_left 1
  · (go_simp; with_reducible rfl)
  try simp only [Act.put, List.setIfInBounds_toArray, List.set_cons_zero, List.set_cons_succ]
  refine lad_w (v := ?_) rfl rfl (fun xq wx => ?_) ?_
  rotate_left 1
  · (go_simp; with_reducible rfl)
  try simp only [Act.put, List.setIfInBounds_toArray, List.set_cons_zero, List.set_cons_succ]
  refine lad_w (v := ?_) rfl rfl (fun xq wx => ?_) ?_
  rotate_left 1
  · (go_simp; with_reducible rfl)
  try simp only [Act.put, List.setIfInBounds_toArray, List.set_cons_zero, List.set_cons_succ]
  refine lad_t (v := ?_) rfl rfl (fun xq wx hS => ?_) ?_
  rotate_left 1
  · (have hc := (HCV.out.keep (St.fr hS) id).cell (i := 0) rfl; clear hS; go_simp; with_reducible rfl)
  try simp only [Act.put, List.setIfInBounds_toArray, List.set_cons_zero, List.set_cons_succ]
  refine lad_w (v := ?_) rfl rfl (fun xq wx => ?_) ?_
  rotate_left 1
  · (go_simp; with_reducible rfl)
  try simp only [Act.put, List.setIfInBounds_toArray, List.set_cons_zero, List.set_cons_succ]
  refine lad_arr rfl rfl rfl (fun _ => rfl) (cw 4 (elN m y1)) (fun wx hS => St.rangeL hS 0 rfl 4 _ (pt_y _ _ _)) Try.underlying70 rfl (by kernel_rfl) ?_
  try simp only [Act.put, List.setIfInBounds_toArray, List.set_cons_zero, List.set_cons_succ]
  refine lad_w (v := ?_) rfl rfl (fun xq wx => ?_) ?_
  rotate_left 1
  · (go_simp; with_reducible rfl)
  try simp only [Act.put, List.setIfInBounds_toArray, List.set_cons_zero, List.set_cons_succ]
  refine lad_w (v := ?_) rfl rfl (fun xq wx => ?_) ?_
  rotate_left 1
  · (go_simp; with_reducible rfl)
  try simp only [Act.put, List.setIfInBounds_toArray, List.set_cons_zero, List.set_cons_succ]
  refine lad_w (v := ?_) rfl rfl (fun xq wx => ?_) ?_
  rotate_left 1
  · (go_simp; with_reducible rfl)
  try simp only [Act.put, List.setIfInBounds_toArray, List.set_cons_zero, List.set_cons_succ]
  refine lad_t (v := ?_) rfl rfl (fun xq wx hS => ?_) ?_
  rotate_left 1
  · (have hc := (HCV.out.keep (St.fr hS) id).cell (i := 0) rfl; clear hS; go_simp; with_reducible rfl)
  try simp only [Act.put, List.setIfInBounds_toArray, List.set_cons_zero, List.set_cons_succ]
  refine lad_arr rfl rfl rfl (fun _ => rfl) (cw 4 (elN m qq)) (fun wx hS => St.rangeL hS 4 rfl 0 _ (by rw [List.drop_zero, List.take_of_length_le (Nat.le_refl _)])) Try.underlying70 rfl (by kernel_rfl) ?_
  try simp only [Act.put, List.setIfInBounds_toArray, List.set_cons_zero, List.set_cons_succ]
  refine lad_w (v := ?_) rfl rfl (fun xq wx => ?_) ?_
  rotate_left 1
  · (go_simp; with_reducible rfl)
  try simp only [Act.put, List.setIfInBounds_toArray, List.set_cons_zero, List.set_cons_succ]
  refine lad_arr rfl rfl rfl (fun _ => rfl) (cw 4 (elN m z2)) (fun wx hS => St.rangeL hS 1 rfl 8 _ (pt_z _ _ _)) Try.underlying70 rfl (by kernel_rfl) ?_
  try simp only [Act.put, List.setIfInBounds_toArray, List.set_cons_zero, List.set_cons_succ]
  refine lad_w (v := ?_) rfl rfl (fun xq wx => ?_) ?_
  rotate_left 1
  · (go_simp; with_reducible rfl)
  try simp only [Act.put, List.setIfInBounds_toArray, List.set_cons_zero, List.set_cons_succ]
  refine lad_w (v := ?_) rfl rfl (fun xq wx => ?_) ?_
  rotate_left 1
  · (go_simp; with_reducible rfl)
  try simp only [Act.put, List.setIfInBounds_toArray, List.set_cons_zero, List.set_cons_succ]
  refine lad_w (v := ?_) rfl rfl (fun xq wx => ?_) ?_
  rotate_left 1
  · (go_simp; with_reducible rfl)
  try simp only [Act.put, List.setIfInBounds_toArray, List.set_cons_zero, List.set_cons_succ]
  refine lad_t (v := ?_) rfl rfl (fun xq wx hS => ?_) ?_
  rotate_left 1
  · (have hc := (HCV.out.keep (St.fr hS) id).cell (i := 0) rfl; clear hS; go_simp; with_reducible rfl)
  try simp only [Act.put, List.setIfInBounds_toArray, List.set_cons_zero, List.set_cons_succ]
  refine lad_w (v := ?_) rfl rfl (fun xq wx => ?_) ?_
  rotate_left 1
  · (go_simp; with_reducible rfl)
  try simp only [Act.put, List.setIfInBounds_toArray, List.set_cons_zero, List.set_cons_succ]
  refine lad_arr rfl rfl rfl (fun _ => rfl) (cw 4 (elN m y2)) (fun wx hS => St.rangeL hS 1 rfl 4 _ (pt_y _ _ _)) Try.underlying70 rfl (by kernel_rfl) ?_
  try simp only [Act.put, List.setIfInBounds_toArray, List.set_cons_zero, List.set_cons_succ]
  refine lad_w (v := ?_) rfl rfl (fun xq wx => ?_) ?_
  rotate_left 1
  · (go_simp; with_reducible rfl)
  try simp only [Act.put, List.setIfInBounds_toArray, List.set_cons_zero, List.set_cons_succ]
  refine lad_w (v := ?_) rfl rfl (fun xq wx => ?_) ?_
  rotate_left 1
  · (go_simp; with_reducible rfl)
  try simp only [Act.put, List.setIfInBounds_toArray, List.set_cons_zero, List.set_cons_succ]
  refine lad_w (v := ?_) rfl rfl (fun xq wx => ?_) ?_
  rotate_left 1
  · (go_simp; with_reducible rfl)
  try simp only [Act.put, List.setIfInBounds_toArray, List.set_cons_zero, List.set_cons_succ]
  refine lad_t (v := ?_) rfl rfl (fun xq wx hS => ?_) ?_
  rotate_left 1
  · (have hc := (HCV.out.keep (St.fr hS) id).cell (i := 0) rfl; clear hS; go_simp; with_reducible rfl)
  try simp only [Act.put, List.setIfInBounds_toArray, List.set_cons_zero, List.set_cons_succ]
  refine lad_arr rfl rfl rfl (fun _ => rfl) (cw 4 (elN m pp)) (fun wx hS => St.rangeL hS 3 rfl 0 _ (by rw [List.drop_zero, List.take_of_length_le (Nat.le_refl _)])) Try.underlying70 rfl (by kernel_rfl) ?_
  try simp only [Act.put, List.setIfInBounds_toArray, List.set_cons_zero, List.set_cons_succ]
  refine lad_w (v := ?_) rfl rfl (fun xq wx => ?_) ?_
  rotate_left 1
  · (go_simp; with_reducible rfl)
  try simp only [Act.put, List.setIfInBounds_toArray, List.set_cons_zero, List.set_cons_succ]
  refine lad_arr rfl rfl rfl (fun _ => rfl) (cw 4 (elN m z1)) (fun wx hS => St.rangeL hS 0 rfl 8 _ (pt_z _ _ _)) Try.underlying70 rfl (by kernel_rfl) ?_
  try simp only [Act.put, List.setIfInBounds_toArray, List.set_cons_zero, List.set_cons_succ]
  refine lad_call rfl rfl rfl Try.call94 (fun w hS hR => MMul_v m gp _ HOK.out (HPM.out.keep hS.fr id) qq z2 q3 Hq3.out) (fun _ => rfl) ?_
  try simp only [Act.put, List.setIfInBounds_toArray, List.set_cons_zero, List.set_cons_succ]
  refine lad_call rfl rfl rfl Try.call94 (fun w hS hR => MMul_v m gp _ HOK.out (HPM.out.keep hS.fr id) y1 q3 s1 Hs1.out) (fun _ => rfl) ?_
  try simp only [Act.put, List.setIfInBounds_toArray, List.set_cons_zero, List.set_cons_succ]
  refine lad_call rfl rfl rfl Try.call94 (fun w hS hR => MMul_v m gp _ HOK.out (HPM.out.keep hS.fr id) pp z1 p3 Hp3.out) (fun _ => rfl) ?_
  try simp only [Act.put, List.setIfInBounds_toArray, List.set_cons_zero, List.set_cons_succ]
  refine lad_call rfl rfl rfl Try.call94 (fun w hS hR => MMul_v m gp _ HOK.out (HPM.out.keep hS.fr id) y2 p3 s2 Hs2.out) (fun _ => rfl) ?_
  try simp only [Act.put, List.setIfInBounds_toArray, List.set_cons_zero, List.set_cons_succ]
  refine lad_j (List.mem_cons_of_mem _ List.mem_cons_self) fun g11 => ?_
  simp only [upd, reduceIte]
  try simp only [Nat.reduceEqDiff, reduceIte]
  refine lad_j List.mem_cons_self fun g12 => ?_
  simp only [upd, reduceIte]
  try simp only [Nat.reduceEqDiff, reduceIte]
  refine lad_end fun xq w12 st12 hR => ?_
  try dsimp only
  clear hR xq
  refine plan_r rfl rfl ?_
  refine wp_storeS st12 7 rfl rfl rfl rfl (by simp [cw_len]) (by kernel_rfl) (cw_one _ _) ?_
  intro w13 st13
  repeat (first | simp only [List.cons_append] at st13 | simp only [List.nil_append] at st13 | simp only [List.set_cons_succ] at st13 | simp only [List.set_cons_zero] at st13)
  clear st12
  refine ⟨by first | exact st13 | exact St.less st13 (by simp), ?_⟩
  try simp only [Act.put]
  refine plan_m rfl rfl ?_
  refine wp_storeS st13 8 rfl rfl rfl rfl (by simp [cw_len]) (by kernel_rfl) (cw_one _ _) ?_
  intro w14 st14
  repeat (first | simp only [List.cons_append] at st14 | simp only [List.nil_append] at st14 | simp only [List.set_cons_succ] at st14 | simp only [List.set_cons_zero] at st14)
  clear st13
  try simp only [Act.put]
  refine plan_end ?_
  refine NoPanic.normal ?_
  go_wp2_with fail
  refine wp_region_noPanic ?_
  refine wp_region_lad st14 17 [.o 14, .o 15, .w 0, .w 1, .w 2, .t 3, .t 4, .t 5, .w 7, .w 8, .w 9, .t 10, .t 11, .t 12, .c 6, .c 13, .j 14, .j 15] (.r 16 (.m 17 .nil)) (by kernel_rfl) (by kernel_rfl) (fun _ _ _ _ _ h => h) ?_
  clear st14
  refine lad_o rfl rfl rfl z_ge (cw 4 0) rfl ?_
  try simp only [Act.put, List.setIfInBounds_toArray, List.set_cons_zero, List.set_cons_succ]
  refine lad_o rfl rfl rfl z_ge (cw 4 0) rfl ?_
  try simp only [Act.put, List.setIfInBounds_toArray, List.set_cons_zero, List.set_cons_succ]
  refine lad_w (v := ?_) rfl rfl (fun xq wx => ?_) ?_
  rotate_left 1
  · (go_simp; with_reducible rfl)
  try simp only [Act.put, List.setIfInBounds_toArray, List.set_cons_zero, List.set_cons_succ]
  refine lad_w (v := ?_) rfl rfl (fun xq wx => ?_) ?_
  rotate_left 1
  · (go_simp; with_reducible rfl)
  try simp only [Act.put, List.setIfInBounds_toArray, List.set_cons_zero, List.set_cons_succ]
  refine lad_w (v := ?_) rfl rfl (fun xq wx => ?_) ?_
  rotate_left 1
  · (go_simp; with_reducible rfl)
  try simp only [Act.put, List.setIfInBounds_toArray, List.set_cons_zero, List.set_cons_succ]
  refine lad_t (v := ?_) rfl rfl (fun xq wx hS => ?_) ?_
  rotate_left 1
  · (have hc := (HCV.out.keep (St.fr hS) id).cell (i := 0) rfl; clear hS; go_simp; with_reducible rfl)
  try simp only [Act.put, List.setIfInBounds_toArray, List.set_cons_zero, List.set_cons_succ]
  refine lad_arr rfl rfl rfl (fun _ => rfl) (cw 4 (elN m u2)) (fun wx hS => St.rangeL hS 6 rfl 0 _ (by rw [List.drop_zero, List.take_of_length_le (Nat.le_refl _)])) Try.underlying70 rfl (by kernel_rfl) ?_
  try simp only [Act.put, List.setIfInBounds_toArray, List.set_cons_zero, List.set_cons_succ]
  refine lad_arr rfl rfl rfl (fun _ => rfl) (cw 4 (elN m u1)) (fun wx hS => St.rangeL hS 5 rfl 0 _ (by rw [List.drop_zero, List.take_of_length_le (Nat.le_refl _)])) Try.underlying70 rfl (by kernel_rfl) ?_
  try simp only [Act.put, List.setIfInBounds_toArray, List.set_cons_zero, List.set_cons_succ]
  refine lad_w (v := ?_) rfl rfl (fun xq wx => ?_) ?_
  rotate_left 1
  · (go_simp; with_reducible rfl)
  try simp only [Act.put, List.setIfInBounds_toArray, List.set_cons_zero, List.set_cons_succ]
  refine lad_w (v := ?_) rfl rfl (fun xq wx => ?_) ?_
  rotate_left 1
  · (go_simp; with_reducible rfl)
  try simp only [Act.put, List.setIfInBounds_toArray, List.set_cons_zero, List.set_cons_succ]
  refine lad_w (v := ?_) rfl rfl (fun xq wx => ?_) ?_
  rotate_left 1
  · (go_simp; with_reducible rfl)
  try simp only [Act.put, List.setIfInBounds_toArray, List.set_cons_zero, List.set_cons_succ]
  refine lad_t (v := ?_) rfl rfl (fun xq wx hS => ?_) ?_
  rotate_left 1
  · (have hc := (HCV.out.keep (St.fr hS) id).cell (i := 0) rfl; clear hS; go_simp; with_reducible rfl)
  try simp only [Act.put, List.setIfInBounds_toArray, List.set_cons_zero, List.set_cons_succ]
  refine lad_arr rfl rfl rfl (fun _ => rfl) (cw 4 (elN m s2)) (fun wx hS => St.rangeL hS 8 rfl 0 _ (by rw [List.drop_zero, List.take_of_length_le (Nat.le_refl _)])) Try.underlying70 rfl (by kernel_rfl) ?_
  try simp only [Act.put, List.setIfInBounds_toArray, List.set_cons_zero, List.set_cons_succ]
  refine lad_arr rfl rfl rfl (fun _ => rfl) (cw 4 (elN m s1)) (fun wx hS => St.rangeL hS 7 rfl 0 _ (by rw [List.drop_zero, List.take_of_length_le (Nat.le_refl _)])) Try.underlying70 rfl (by kernel_rfl) ?_
  try simp only [Act.put, List.setIfInBounds_toArray, List.set_cons_zero, List.set_cons_succ]
  refine lad_call rfl rfl rfl Try.call95 (fun w hS hR => MSub_v m gp _ HOK.out (HPM.out.keep hS.fr id) u2 u1 hd Hhd.out) (fun _ => rfl) ?_
  try simp only [Act.put, List.setIfInBounds_toArray, List.set_cons_zero, List.set_cons_succ]
  refine lad_call rfl rfl rfl Try.call95 (fun w hS hR => MSub_v m gp _ HOK.out (HPM.out.keep hS.fr id) s2 s1 rr Hrr.out) (fun _ => rfl) ?_
  try simp only [Act.put, List.setIfInBounds_toArray, List.set_cons_zero, List.set_cons_succ]
  refine lad_j (List.mem_cons_of_mem _ List.mem_cons_self) fun g13 => ?_
  simp only [upd, reduceIte]
  try simp only [Nat.reduceEqDiff, reduceIte]
  refine lad_j List.mem_cons_self fun g14 => ?_
  simp only [upd, reduceIte]
  try simp only [Nat.reduceEqDiff, reduceIte]
  refine lad_end fun xq w15 st15 hR => ?_
  try dsimp only
  clear hR xq
  refine plan_r rfl rfl ?_
  refine wp_storeS st15 9 rfl rfl rfl rfl (by simp [cw_len]) (by kernel_rfl) (cw_one _ _) ?_
  intro w16 st16
  repeat (first | simp only [List.cons_append] at st16 | simp only [List.nil_append] at st16 | simp only [List.set_cons_succ] at st16 | simp only [List.set_cons_zero] at st16)
  clear st15
  refine ⟨by first | exact st16 | exact St.less st16 (by simp), ?_⟩
  try simp only [Act.put]
  refine plan_m rfl rfl ?_
  refine wp_storeS st16 10 rfl rfl rfl rfl (by simp [cw_len]) (by kernel_rfl) (cw_one _ _) ?_
  intro w17 st17
  repeat (first | simp only [List.cons_append] at st17 | simp only [List.nil_append] at st17 | simp only [List.set_cons_succ] at st17 | simp only [List.set_cons_zero] at st17)
  clear st16
  try simp only [Act.put]
  refine plan_end ?_
  refine NoPanic.normal ?_
  rcases Bool.eq_false_or_eq_true (hd % m.M == 0) with hh0 | hh0
  · have HHZ := Lib.hid hh0
    rcases Bool.eq_false_or_eq_true (rr % m.M == 0) with hr0 | hr0
    · have HRZ := Lib.hid hr0
      have HDB := Lib.hid (show ∀ wx, Fr Nob w wx → Calls Try.prog 97 #[.pointer (some ⟨gc, 0, none⟩), .agg (cw 4 (elN m x1) ++ (cw 4 (elN m y1) ++ cw 4 (elN m z1))).toArray] wx fun e w' => e = .returned (.agg (cw 4 (elN m DX) ++ (cw 4 (elN m DY) ++ cw 4 (elN m DZ))).toArray) ∧ Fr Nob wx w' from HD0.out hh0 hr0)
      clear hh0 hr0 HD0
      go_wp2_with (with_reducible refine wl_stop (o := ⟨some 101, _, _, _, _, _⟩) ?_)
      refine wl_loadS st17 9 rfl rfl rfl Try.underlying70 rfl (by kernel_rfl) ?_
      go_wp2_with fail
      refine (EZero_any m HOK.out hd true HHZ.out _).mono ?_
      rintro e' w18 ⟨rfl, hf18⟩
      have st18 := st17.keep hf18
      clear st17 hf18
      go_wp2_with (with_reducible refine wl_stop (o := ⟨some 103, _, _, _, _, _⟩) ?_)
      refine wl_loadS st18 10 rfl rfl rfl Try.underlying70 rfl (by kernel_rfl) ?_
      go_wp2_with fail
      refine (EZero_any m HOK.out rr true HRZ.out _).mono ?_
      rintro e' w19 ⟨rfl, hf19⟩
      have st19 := st18.keep hf19
      clear st18 hf19
      go_wp2_with (with_reducible refine wl_stop (o := ⟨some 106, _, _, _, _, _⟩) ?_)
      refine wl_loadSt st19 0 rfl rfl rfl Try.underlying72 rfl rfl (by kernel_rfl) ?_
      go_wp2_with fail
      refine (HDB.out _ st19.fr).mono ?_
      rintro e' w20 ⟨rfl, hf20⟩
      have st20 := st19.keep hf20
      clear st19 hf20
      go_wp2_with (with_reducible refine wl_stop (o := ⟨none, _, _, _, _, _⟩) ?_)
      refine wl_storeS st20 2 rfl rfl rfl rfl rfl (by simp [cw_len]) (by kernel_rfl) (pt_one _ _ _) ?_
      intro w21 st21
      clear st20
      have hr := st21.at 2 rfl
      have hfr := st21.fr
      clear st21
      go_wp2_with fail
      exact bodyPost_ret (results_st rfl rfl hr Try.underlying72 rfl (by kernel_rfl)) rfl ⟨by rw [HHZ.out, HRZ.out]; rfl, hfr⟩
    · have HRZ := Lib.hid hr0
      clear hh0 hr0 HD0
      go_wp2_with (with_reducible refine wl_stop (o := ⟨some 101, _, _, _, _, _⟩) ?_)
      refine wl_loadS st17 9 rfl rfl rfl Try.underlying70 rfl (by kernel_rfl) ?_
      go_wp2_with fail
      refine (EZero_any m HOK.out hd true HHZ.out _).mono ?_
      rintro e' w18 ⟨rfl, hf18⟩
      have st18 := st17.keep hf18
      clear st17 hf18
      go_wp2_with (with_reducible refine wl_stop (o := ⟨some 103, _, _, _, _, _⟩) ?_)
      refine wl_loadS st18 10 rfl rfl rfl Try.underlying70 rfl (by kernel_rfl) ?_
      go_wp2_with fail
      refine (EZero_any m HOK.out rr false HRZ.out _).mono ?_
      rintro e' w19 ⟨rfl, hf19⟩
      have st19 := st18.keep hf19
      clear st18 hf19
      go_wp2_with fail
      refine (nothing_u m gc gp bx by_ _ HOK.out (HCV.out.keep st19.fr id) (HPM.out.keep st19.fr id)).mono ?_
      rintro e' w20 ⟨rfl, hf20⟩
      have st20 := st19.keep hf20
      clear st19 hf20
      go_wp2_with (with_reducible refine wl_stop (o := ⟨none, _, _, _, _, _⟩) ?_)
      refine wl_storeS st20 2 rfl rfl rfl rfl rfl (by simp [cw_len]) (by kernel_rfl) (pt_one _ _ _) ?_
      intro w21 st21
      clear st20
      have hr := st21.at 2 rfl
      have hfr := st21.fr
      clear st21
      go_wp2_with fail
      exact bodyPost_ret (results_st rfl rfl hr Try.underlying72 rfl (by kernel_rfl)) rfl ⟨by rw [HHZ.out, HRZ.out]; rfl, hfr⟩
  · have HHZ := Lib.hid hh0
    clear hh0 HD0
    go_wp2_with (with_reducible refine wl_stop (o := ⟨some 101, _, _, _, _, _⟩) ?_)
    refine wl_loadS st17 9 rfl rfl rfl Try.underlying70 rfl (by kernel_rfl) ?_
    go_wp2_with fail
    refine (EZero_any m HOK.out hd false HHZ.out _).mono ?_
    rintro e' w18 ⟨rfl, hf18⟩
    have st18 := st17.keep hf18
    clear st17 hf18
    go_wp2_with fail
    refine wp_region_noPanic ?_
    refine wp_region_lad st18 7 [.o 6, .w 0, .w 1, .w 2, .t 3, .t 4, .c 5, .j 6] (.m 7 .nil) (by kernel_rfl) (by kernel_rfl) (fun _ _ _ _ _ h => h) ?_
    clear st18
    refine lad_o rfl rfl rfl z_ge (cw 4 0) rfl ?_
    try simp only [Act.put, List.setIfInBounds_toArray, List.set_cons_zero, List.set_cons_succ]
    refine lad_w (v := ?_) rfl rfl (fun xq wx => ?_) ?_
    rotate_left 1
    · (go_simp; with_reducible rfl)
    try simp only [Act.put, List.setIfInBounds_toArray, List.set_cons_zero, List.set_cons_succ]
    refine lad_w (v := ?_) rfl rfl (fun xq wx => ?_) ?_
    rotate_left 1
    · (go_simp; with_reducible rfl)
    try simp only [Act.put, List.setIfInBounds_toArray, List.set_cons_zero, List.set_cons_succ]
    refine lad_w (v := ?_) rfl rfl (fun xq wx => ?_) ?_
    rotate_left 1
    · (go_simp; with_reducible rfl)
    try simp only [Act.put, List.setIfInBounds_toArray, List.set_cons_zero, List.set_cons_succ]
    refine lad_t (v := ?_) rfl rfl (fun xq wx hS => ?_) ?_
    rotate_left 1
    · (have hc := (HCV.out.keep (St.fr hS) id).cell (i := 0) rfl; clear hS; go_simp; with_reducible rfl)
    try simp only [Act.put, List.setIfInBounds_toArray, List.set_cons_zero, List.set_cons_succ]
    refine lad_arr rfl rfl rfl (fun _ => rfl) (cw 4 (elN m hd)) (fun wx hS => St.rangeL hS 9 rfl 0 _ (by rw [List.drop_zero, List.take_of_length_le (Nat.le_refl _)])) Try.underlying70 rfl (by kernel_rfl) ?_
    try simp only [Act.put, List.setIfInBounds_toArray, List.set_cons_zero, List.set_cons_succ]
    refine lad_call rfl rfl rfl Try.call93 (fun w hS hR => MSquare_v m gp _ HOK.out (HPM.out.keep hS.fr id) hd hh Hhh.out) (fun _ => rfl) ?_
    try simp only [Act.put, List.setIfInBounds_toArray, List.set_cons_zero, List.set_cons_succ]
    refine lad_j List.mem_cons_self fun g15 => ?_
    simp only [upd, reduceIte]
    try simp only [Nat.reduceEqDiff, reduceIte]
    refine lad_end fun xq w19 st19 hR => ?_
    try dsimp only
    clear hR xq
    refine plan_m rfl rfl ?_
    refine wp_storeS st19 11 rfl rfl rfl rfl (by simp [cw_len]) (by kernel_rfl) (cw_one _ _) ?_
    intro w20 st20
    repeat (first | simp only [List.cons_append] at st20 | simp only [List.nil_append] at st20 | simp only [List.set_cons_succ] at st20 | simp only [List.set_cons_zero] at st20)
    clear st19
    try simp only [Act.put]
    refine plan_end ?_
    refine NoPanic.normal ?_
    go_wp2_with fail
    refine wp_region_noPanic ?_
    refine wp_region_lad st20 8 [.o 7, .w 0, .w 1, .w 2, .t 3, .t 4, .t 5, .c 6, .j 7] (.m 8 .nil) (by kernel_rfl) (by kernel_rfl) (fun _ _ _ _ _ h => h) ?_
    clear st20
    refine lad_o rfl rfl rfl z_ge (cw 4 0) rfl ?_
    try simp only [Act.put, List.setIfInBounds_toArray, List.set_cons_zero, List.set_cons_succ]
    refine lad_w (v := ?_) rfl rfl (fun xq wx => ?_) ?_
    rotate_left 1
    · (go_simp; with_reducible rfl)
    try simp only [Act.put, List.setIfInBounds_toArray, List.set_cons_zero, List.set_cons_succ]
    refine lad_w (v := ?_) rfl rfl (fun xq wx => ?_) ?_
    rotate_left 1
    · (go_simp; with_reducible rfl)
    try simp only [Act.put, List.setIfInBounds_toArray, List.set_cons_zero, List.set_cons_succ]
    refine lad_w (v := ?_) rfl rfl (fun xq wx => ?_) ?_
    rotate_left 1
    · (go_simp; with_reducible rfl)
    try simp only [Act.put, List.setIfInBounds_toArray, List.set_cons_zero, List.set_cons_succ]
    refine lad_t (v := ?_) rfl rfl (fun xq wx hS => ?_) ?_
    rotate_left 1
    · (have hc := (HCV.out.keep (St.fr hS) id).cell (i := 0) rfl; clear hS; go_simp; with_reducible rfl)
    try simp only [Act.put, List.setIfInBounds_toArray, List.set_cons_zero, List.set_cons_succ]
    refine lad_arr rfl rfl rfl (fun _ => rfl) (cw 4 (elN m hh)) (fun wx hS => St.rangeL hS 11 rfl 0 _ (by rw [List.drop_zero, List.take_of_length_le (Nat.le_refl _)])) Try.underlying70 rfl (by kernel_rfl) ?_
    try simp only [Act.put, List.setIfInBounds_toArray, List.set_cons_zero, List.set_cons_succ]
    refine lad_arr rfl rfl rfl (fun _ => rfl) (cw 4 (elN m hd)) (fun wx hS => St.rangeL hS 9 rfl 0 _ (by rw [List.drop_zero, List.take_of_length_le (Nat.le_refl _)])) Try.underlying70 rfl (by kernel_rfl) ?_
    try simp only [Act.put, List.setIfInBounds_toArray, List.set_cons_zero, List.set_cons_succ]
    refine lad_call rfl rfl rfl Try.call94 (fun w hS hR => MMul_v m gp _ HOK.out (HPM.out.keep hS.fr id) hh hd h3 Hh3.out) (fun _ => rfl) ?_
    try simp only [Act.put, List.setIfInBounds_toArray, List.set_cons_zero, List.set_cons_succ]
    refine lad_j List.mem_cons_self fun g16 => ?_
    simp only [upd, reduceIte]
    try simp only [Nat.reduceEqDiff, reduceIte]
    refine lad_end fun xq w21 st21 hR => ?_
    try dsimp only
    clear hR xq
    refine plan_m rfl rfl ?_
    refine wp_storeS st21 12 rfl rfl rfl rfl (by simp [cw_len]) (by kernel_rfl) (cw_one _ _) ?_
    intro w22 st22
    repeat (first | simp only [List.cons_append] at st22 | simp only [List.nil_append] at st22 | simp only [List.set_cons_succ] at st22 | simp only [List.set_cons_zero] at st22)
    clear st21
    try simp only [Act.put]
    refine plan_end ?_
    refine NoPanic.normal ?_
    go_wp2_with fail
    refine wp_region_noPanic ?_
    refine wp_region_lad st22 8 [.o 7, .w 0, .w 1, .w 2, .t 3, .t 4, .t 5, .c 6, .j 7] (.m 8 .nil) (by kernel_rfl) (by kernel_rfl) (fun _ _ _ _ _ h => h) ?_
    clear st22
    refine lad_o rfl rfl rfl z_ge (cw 4 0) rfl ?_
    try simp only [Act.put, List.setIfInBounds_toArray, List.set_cons_zero, List.set_cons_succ]
    refine lad_w (v := ?_) rfl rfl (fun xq wx => ?_) ?_
    rotate_left 1
    · (go_simp; with_reducible rfl)
    try simp only [Act.put, List.setIfInBounds_toArray, List.set_cons_zero, List.set_cons_succ]
    refine lad_w (v := ?_) rfl rfl (fun xq wx => ?_) ?_
    rotate_left 1
    · (go_simp; with_reducible rfl)
    try simp only [Act.put, List.setIfInBounds_toArray, List.set_cons_zero, List.set_cons_succ]
    refine lad_w (v := ?_) rfl rfl (fun xq wx => ?_) ?_
    rotate_left 1
    · (go_simp; with_reducible rfl)
    try simp only [Act.put, List.setIfInBounds_toArray, List.set_cons_zero, List.set_cons_succ]
    refine lad_t (v := ?_) rfl rfl (fun xq wx hS => ?_) ?_
    rotate_left 1
    · (have hc := (HCV.out.keep (St.fr hS) id).cell (i := 0) rfl; clear hS; go_simp; with_reducible rfl)
    try simp only [Act.put, List.setIfInBounds_toArray, List.set_cons_zero, List.set_cons_succ]
    refine lad_arr rfl rfl rfl (fun _ => rfl) (cw 4 (elN m u1)) (fun wx hS => St.rangeL hS 5 rfl 0 _ (by rw [List.drop_zero, List.take_of_length_le (Nat.le_refl _)])) Try.underlying70 rfl (by kernel_rfl) ?_
    try simp only [Act.put, List.setIfInBounds_toArray, List.set_cons_zero, List.set_cons_succ]
    refine lad_arr rfl rfl rfl (fun _ => rfl) (cw 4 (elN m hh)) (fun wx hS => St.rangeL hS 11 rfl 0 _ (by rw [List.drop_zero, List.take_of_length_le (Nat.le_refl _)])) Try.underlying70 rfl (by kernel_rfl) ?_
    try simp only [Act.put, List.setIfInBounds_toArray, List.set_cons_zero, List.set_cons_succ]
    refine lad_call rfl rfl rfl Try.call94 (fun w hS hR => MMul_v m gp _ HOK.out (HPM.out.keep hS.fr id) u1 hh v Hv.out) (fun _ => rfl) ?_
    try simp only [Act.put, List.setIfInBounds_toArray, List.set_cons_zero, List.set_cons_succ]
    refine lad_j List.mem_cons_self fun g17 => ?_
    simp only [upd, reduceIte]
    try simp only [Nat.reduceEqDiff, reduceIte]
    refine lad_end fun xq w23 st23 hR => ?_
    try dsimp only
    clear hR xq
    refine plan_m rfl rfl ?_
    refine wp_storeS st23 13 rfl rfl rfl rfl (by simp [cw_len]) (by kernel_rfl) (cw_one _ _) ?_
    intro w24 st24
    repeat (first | simp only [List.cons_append] at st24 | simp only [List.nil_append] at st24 | simp only [List.set_cons_succ] at st24 | simp only [List.set_cons_zero] at st24)
    clear st23
    try simp only [Act.put]
    refine plan_end ?_
    refine NoPanic.normal ?_
    go_wp2_with fail
    refine wp_region_noPanic ?_
    refine wp_region_lad st24 25 [.o 24, .w 0, .w 1, .w 2, .t 3, .w 4, .w 5, .w 6, .t 7, .t 8, .w 10, .w 11, .w 12, .t 13, .t 14, .w 15, .w 16, .w 17, .t 18, .t 19, .t 20, .c 9, .c 21, .c 22, .c 23, .j 24] (.m 25 .nil) (by kernel_rfl) (by kernel_rfl) (fun _ _ _ _ _ h => h) ?_
    clear st24
    refine lad_o rfl rfl rfl z_ge (cw 4 0) rfl ?_
    try simp only [Act.put, List.setIfInBounds_toArray, List.set_cons_zero, List.set_cons_succ]
    refine lad_w (v := ?_) rfl rfl (fun xq wx => ?_) ?_
    rotate_left 1
    · (go_simp; with_reducible rfl)
    try simp only [Act.put, List.setIfInBounds_toArray, List.set_cons_zero, List.set_cons_succ]
    refine lad_w (v := ?_) rfl rfl (fun xq wx => ?_) ?_
    rotate_left 1
    · (go_simp; with_reducible rfl)
    try simp only [Act.put, List.setIfInBounds_toArray, List.set_cons_zero, List.set_cons_succ]
    refine lad_w (v := ?_) rfl rfl (fun xq wx => ?_) ?_
    rotate_left 1
    · (go_simp; with_reducible rfl)
    try simp only [Act.put, List.setIfInBounds_toArray, List.set_cons_zero, List.set_cons_succ]
    refine lad_t (v := ?_) rfl rfl (fun xq wx hS => ?_) ?_
    rotate_left 1
    · (have hc := (HCV.out.keep (St.fr hS) id).cell (i := 0) rfl; clear hS; go_simp; with_reducible rfl)
    try simp only [Act.put, List.setIfInBounds_toArray, List.set_cons_zero, List.set_cons_succ]
    refine lad_w (v := ?_) rfl rfl (fun xq wx => ?_) ?_
    rotate_left 1
    · (go_simp; with_reducible rfl)
    try simp only [Act.put, List.setIfInBounds_toArray, List.set_cons_zero, List.set_cons_succ]
    refine lad_w (v := ?_) rfl rfl (fun xq wx => ?_) ?_
    rotate_left 1
    · (go_simp; with_reducible rfl)
    try simp only [Act.put, List.setIfInBounds_toArray, List.set_cons_zero, List.set_cons_succ]
    refine lad_w (v := ?_) rfl rfl (fun xq wx => ?_) ?_
    rotate_left 1
    · (go_simp; with_reducible rfl)
    try simp only [Act.put, List.setIfInBounds_toArray, List.set_cons_zero, List.set_cons_succ]
    refine lad_t (v := ?_) rfl rfl (fun xq wx hS => ?_) ?_
    rotate_left 1
    · (have hc := (HCV.out.keep (St.fr hS) id).cell (i := 0) rfl; clear hS; go_simp; with_reducible rfl)
    try simp only [Act.put, List.setIfInBounds_toArray, List.set_cons_zero, List.set_cons_succ]
    refine lad_arr rfl rfl rfl (fun _ => rfl) (cw 4 (elN m rr)) (fun wx hS => St.rangeL hS 10 rfl 0 _ (by rw [List.drop_zero, List.take_of_length_le (Nat.le_refl _)])) Try.underlying70 rfl (by kernel_rfl) ?_
    try simp only [Act.put, List.setIfInBounds_toArray, List.set_cons_zero, List.set_cons_succ]
    refine lad_w (v := ?_) rfl rfl (fun xq wx => ?_) ?_
    rotate_left 1
    · (go_simp; with_reducible rfl)
    try simp only [Act.put, List.setIfInBounds_toArray, List.set_cons_zero, List.set_cons_succ]
    refine lad_w (v := ?_) rfl rfl (fun xq wx => ?_) ?_
    rotate_left 1
    · (go_simp; with_reducible rfl)
    try simp only [Act.put, List.setIfInBounds_toArray, List.set_cons_zero, List.set_cons_succ]
    refine lad_w (v := ?_) rfl rfl (fun xq wx => ?_) ?_
    rotate_left 1
    · (go_simp; with_reducible rfl)
    try simp only [Act.put, List.setIfInBounds_toArray, List.set_cons_zero, List.set_cons_succ]
    refine lad_t (v := ?_) rfl rfl (fun xq wx hS => ?_) ?_
    rotate_left 1
    · (have hc := (HCV.out.keep (St.fr hS) id).cell (i := 0) rfl; clear hS; go_simp; with_reducible rfl)
    try simp only [Act.put, List.setIfInBounds_toArray, List.set_cons_zero, List.set_cons_succ]
    refine lad_arr rfl rfl rfl (fun _ => rfl) (cw 4 (elN m h3)) (fun wx hS => St.rangeL hS 12 rfl 0 _ (by rw [List.drop_zero, List.take_of_length_le (Nat.le_refl _)])) Try.underlying70 rfl (by kernel_rfl) ?_
    try simp only [Act.put, List.setIfInBounds_toArray, List.set_cons_zero, List.set_cons_succ]
    refine lad_w (v := ?_) rfl rfl (fun xq wx => ?_) ?_
    rotate_left 1
    · (go_simp; with_reducible rfl)
    try simp only [Act.put, List.setIfInBounds_toArray, List.set_cons_zero, List.set_cons_succ]
    refine lad_w (v := ?_) rfl rfl (fun xq wx => ?_) ?_
    rotate_left 1
    · (go_simp; with_reducible rfl)
    try simp only [Act.put, List.setIfInBounds_toArray, List.set_cons_zero, List.set_cons_succ]
    refine lad_w (v := ?_) rfl rfl (fun xq wx => ?_) ?_
    rotate_left 1
    · (go_simp; with_reducible rfl)
    try simp only [Act.put, List.setIfInBounds_toArray, List.set_cons_zero, List.set_cons_succ]
    refine lad_t (v := ?_) rfl rfl (fun xq wx hS => ?_) ?_
    rotate_left 1
    · (have hc := (HCV.out.keep (St.fr hS) id).cell (i := 0) rfl; clear hS; go_simp; with_reducible rfl)
    try simp only [Act.put, List.setIfInBounds_toArray, List.set_cons_zero, List.set_cons_succ]
    refine lad_arr rfl rfl rfl (fun _ => rfl) (cw 4 (elN m v)) (fun wx hS => St.rangeL hS 13 rfl 0 _ (by rw [List.drop_zero, List.take_of_length_le (Nat.le_refl _)])) Try.underlying70 rfl (by kernel_rfl) ?_
    try simp only [Act.put, List.setIfInBounds_toArray, List.set_cons_zero, List.set_cons_succ]
    refine lad_arr rfl rfl rfl (fun _ => rfl) (cw 4 (elN m v)) (fun wx hS => St.rangeL hS 13 rfl 0 _ (by rw [List.drop_zero, List.take_of_length_le (Nat.le_refl _)])) Try.underlying70 rfl (by kernel_rfl) ?_
    try simp only [Act.put, List.setIfInBounds_toArray, List.set_cons_zero, List.set_cons_succ]
    refine lad_call rfl rfl rfl Try.call93 (fun w hS hR => MSquare_v m gp _ HOK.out (HPM.out.keep hS.fr id) rr r2 Hr2.out) (fun _ => rfl) ?_
    try simp only [Act.put, List.setIfInBounds_toArray, List.set_cons_zero, List.set_cons_succ]
    refine lad_call rfl rfl rfl Try.call98 (fun w hS hR => MAdd_v m gp _ HOK.out (HPM.out.keep hS.fr id) v v v2 Hv2.out) (fun _ => rfl) ?_
    try simp only [Act.put, List.setIfInBounds_toArray, List.set_cons_zero, List.set_cons_succ]
    refine lad_call rfl rfl rfl Try.call98 (fun w hS hR => MAdd_v m gp _ HOK.out (HPM.out.keep hS.fr id) h3 v2 t1 Ht1.out) (fun _ => rfl) ?_
    try simp only [Act.put, List.setIfInBounds_toArray, List.set_cons_zero, List.set_cons_succ]
    refine lad_call rfl rfl rfl Try.call95 (fun w hS hR => MSub_v m gp _ HOK.out (HPM.out.keep hS.fr id) r2 t1 X HX.out) (fun _ => rfl) ?_
    try simp only [Act.put, List.setIfInBounds_toArray, List.set_cons_zero, List.set_cons_succ]
    refine lad_j List.mem_cons_self fun g18 => ?_
    simp only [upd, reduceIte]
    try simp only [Nat.reduceEqDiff, reduceIte]
    refine lad_end fun xq w25 st25 hR => ?_
    try dsimp only
    clear hR xq
    refine plan_m rfl rfl ?_
    refine wp_storeS st25 14 rfl rfl rfl rfl (by simp [cw_len]) (by kernel_rfl) (cw_one _ _) ?_
    intro w26 st26
    repeat (first | simp only [List.cons_append] at st26 | simp only [List.nil_append] at st26 | simp only [List.set_cons_succ] at st26 | simp only [List.set_cons_zero] at st26)
    clear st25
    try simp only [Act.put]
    refine plan_end ?_
    refine NoPanic.normal ?_
    go_wp2_with fail
    refine wp_region_noPanic ?_
    refine wp_region_lad st26 42 [.t 0, .w 1, .w 2, .w 3, .t 4, .w 5, .w 6, .w 7, .t 8, .t 9, .w 10, .w 11, .w 12, .t 13, .t 14, .t 15, .w 18, .w 19, .w 20, .t 21, .t 22, .t 23, .w 26, .w 27, .w 28, .t 29, .t 30, .w 31, .w 32, .w 33, .t 34, .w 35, .t 36, .w 37, .t 38, .c 16, .c 17, .c 24, .c 25, .c 39, .c 40, .w 41] (.m 42 .nil) (by kernel_rfl) (by kernel_rfl) (fun _ _ _ _ _ h => h) ?_
    clear st26
    refine lad_arr rfl rfl rfl (fun _ => rfl) (cw 4 (elN m X)) (fun wx hS => St.rangeL hS 14 rfl 0 _ (by rw [List.drop_zero, List.take_of_length_le (Nat.le_refl _)])) Try.underlying70 rfl (by kernel_rfl) ?_
    try simp only [Act.put, List.setIfInBounds_toArray, List.set_cons_zero, List.set_cons_succ]
    refine lad_w (v := ?_) rfl rfl (fun xq wx => ?_) ?_
    rotate_left 1
    · (go_simp; with_reducible rfl)
    try simp only [Act.put, List.setIfInBounds_toArray, List.set_cons_zero, List.set_cons_succ]
    refine lad_w (v := ?_) rfl rfl (fun xq wx => ?_) ?_
    rotate_left 1
    · (go_simp; with_reducible rfl)
    try simp only [Act.put, List.setIfInBounds_toArray, List.set_cons_zero, List.set_cons_succ]
    refine lad_w (v := ?_) rfl rfl (fun xq wx => ?_) ?_
    rotate_left 1
    · (go_simp; with_reducible rfl)
    try simp only [Act.put, List.setIfInBounds_toArray, List.set_cons_zero, List.set_cons_succ]
    refine lad_t (v := ?_) rfl rfl (fun xq wx hS => ?_) ?_
    rotate_left 1
    · (have hc := (HCV.out.keep (St.fr hS) id).cell (i := 0) rfl; clear hS; go_simp; with_reducible rfl)
    try simp only [Act.put, List.setIfInBounds_toArray, List.set_cons_zero, List.set_cons_succ]
    refine lad_w (v := ?_) rfl rfl (fun xq wx => ?_) ?_
    rotate_left 1
    · (go_simp; with_reducible rfl)
    try simp only [Act.put, List.setIfInBounds_toArray, List.set_cons_zero, List.set_cons_succ]
    refine lad_w (v := ?_) rfl rfl (fun xq wx => ?_) ?_
    rotate_left 1
    · (go_simp; with_reducible rfl)
    try simp only [Act.put, List.setIfInBounds_toArray, List.set_cons_zero, List.set_cons_succ]
    refine lad_w (v := ?_) rfl rfl (fun xq wx => ?_) ?_
    rotate_left 1
    · (go_simp; with_reducible rfl)
    try simp only [Act.put, List.setIfInBounds_toArray, List.set_cons_zero, List.set_cons_succ]
    refine lad_t (v := ?_) rfl rfl (fun xq wx hS => ?_) ?_
    rotate_left 1
    · (have hc := (HCV.out.keep (St.fr hS) id).cell (i := 0) rfl; clear hS; go_simp; with_reducible rfl)
    try simp only [Act.put, List.setIfInBounds_toArray, List.set_cons_zero, List.set_cons_succ]
    refine lad_arr rfl rfl rfl (fun _ => rfl) (cw 4 (elN m rr)) (fun wx hS => St.rangeL hS 10 rfl 0 _ (by rw [List.drop_zero, List.take_of_length_le (Nat.le_refl _)])) Try.underlying70 rfl (by kernel_rfl) ?_
    try simp only [Act.put, List.setIfInBounds_toArray, List.set_cons_zero, List.set_cons_succ]
    refine lad_w (v := ?_) rfl rfl (fun xq wx => ?_) ?_
    rotate_left 1
    · (go_simp; with_reducible rfl)
    try simp only [Act.put, List.setIfInBounds_toArray, List.set_cons_zero, List.set_cons_succ]
    refine lad_w (v := ?_) rfl rfl (fun xq wx => ?_) ?_
    rotate_left 1
    · (go_simp; with_reducible rfl)
    try simp only [Act.put, List.setIfInBounds_toArray, List.set_cons_zero, List.set_cons_succ]
    refine lad_w (v := ?_) rfl rfl (fun xq wx => ?_) ?_
    rotate_left 1
    · (go_simp; with_reducible rfl)
    try simp only [Act.put, List.setIfInBounds_toArray, List.set_cons_zero, List.set_cons_succ]
    refine lad_t (v := ?_) rfl rfl (fun xq wx hS => ?_) ?_
    rotate_left 1
    · (have hc := (HCV.out.keep (St.fr hS) id).cell (i := 0) rfl; clear hS; go_simp; with_reducible rfl)
    try simp only [Act.put, List.setIfInBounds_toArray, List.set_cons_zero, List.set_cons_succ]
    refine lad_arr rfl rfl rfl (fun _ => rfl) (cw 4 (elN m v)) (fun wx hS => St.rangeL hS 13 rfl 0 _ (by rw [List.drop_zero, List.take_of_length_le (Nat.le_refl _)])) Try.underlying70 rfl (by kernel_rfl) ?_
    try simp only [Act.put, List.setIfInBounds_toArray, List.set_cons_zero, List.set_cons_succ]
    refine lad_arr rfl rfl rfl (fun _ => rfl) (cw 4 (elN m X)) (fun wx hS => St.rangeL hS 14 rfl 0 _ (by rw [List.drop_zero, List.take_of_length_le (Nat.le_refl _)])) Try.underlying70 rfl (by kernel_rfl) ?_
    try simp only [Act.put, List.setIfInBounds_toArray, List.set_cons_zero, List.set_cons_succ]
    refine lad_w (v := ?_) rfl rfl (fun xq wx => ?_) ?_
    rotate_left 1
    · (go_simp; with_reducible rfl)
    try simp only [Act.put, List.setIfInBounds_toArray, List.set_cons_zero, List.set_cons_succ]
    refine lad_w (v := ?_) rfl rfl (fun xq wx => ?_) ?_
    rotate_left 1
    · (go_simp; with_reducible rfl)
    try simp only [Act.put, List.setIfInBounds_toArray, List.set_cons_zero, List.set_cons_succ]
    refine lad_w (v := ?_) rfl rfl (fun xq wx => ?_) ?_
    rotate_left 1
    · (go_simp; with_reducible rfl)
    try simp only [Act.put, List.setIfInBounds_toArray, List.set_cons_zero, List.set_cons_succ]
    refine lad_t (v := ?_) rfl rfl (fun xq wx hS => ?_) ?_
    rotate_left 1
    · (have hc := (HCV.out.keep (St.fr hS) id).cell (i := 0) rfl; clear hS; go_simp; with_reducible rfl)
    try simp only [Act.put, List.setIfInBounds_toArray, List.set_cons_zero, List.set_cons_succ]
    refine lad_arr rfl rfl rfl (fun _ => rfl) (cw 4 (elN m s1)) (fun wx hS => St.rangeL hS 7 rfl 0 _ (by rw [List.drop_zero, List.take_of_length_le (Nat.le_refl _)])) Try.underlying70 rfl (by kernel_rfl) ?_
    try simp only [Act.put, List.setIfInBounds_toArray, List.set_cons_zero, List.set_cons_succ]
    refine lad_arr rfl rfl rfl (fun _ => rfl) (cw 4 (elN m h3)) (fun wx hS => St.rangeL hS 12 rfl 0 _ (by rw [List.drop_zero, List.take_of_length_le (Nat.le_refl _)])) Try.underlying70 rfl (by kernel_rfl) ?_
    try simp only [Act.put, List.setIfInBounds_toArray, List.set_cons_zero, List.set_cons_succ]
    refine lad_w (v := ?_) rfl rfl (fun xq wx => ?_) ?_
    rotate_left 1
    · (go_simp; with_reducible rfl)
    try simp only [Act.put, List.setIfInBounds_toArray, List.set_cons_zero, List.set_cons_succ]
    refine lad_w (v := ?_) rfl rfl (fun xq wx => ?_) ?_
    rotate_left 1
    · (go_simp; with_reducible rfl)
    try simp only [Act.put, List.setIfInBounds_toArray, List.set_cons_zero, List.set_cons_succ]
    refine lad_w (v := ?_) rfl rfl (fun xq wx => ?_) ?_
    rotate_left 1
    · (go_simp; with_reducible rfl)
    try simp only [Act.put, List.setIfInBounds_toArray, List.set_cons_zero, List.set_cons_succ]
    refine lad_t (v := ?_) rfl rfl (fun xq wx hS => ?_) ?_
    rotate_left 1
    · (have hc := (HCV.out.keep (St.fr hS) id).cell (i := 0) rfl; clear hS; go_simp; with_reducible rfl)
    try simp only [Act.put, List.setIfInBounds_toArray, List.set_cons_zero, List.set_cons_succ]
    refine lad_arr rfl rfl rfl (fun _ => rfl) (cw 4 (elN m hd)) (fun wx hS => St.rangeL hS 9 rfl 0 _ (by rw [List.drop_zero, List.take_of_length_le (Nat.le_refl _)])) Try.underlying70 rfl (by kernel_rfl) ?_
    try simp only [Act.put, List.setIfInBounds_toArray, List.set_cons_zero, List.set_cons_succ]
    refine lad_w (v := ?_) rfl rfl (fun xq wx => ?_) ?_
    rotate_left 1
    · (go_simp; with_reducible rfl)
    try simp only [Act.put, List.setIfInBounds_toArray, List.set_cons_zero, List.set_cons_succ]
    refine lad_w (v := ?_) rfl rfl (fun xq wx => ?_) ?_
    rotate_left 1
    · (go_simp; with_reducible rfl)
    try simp only [Act.put, List.setIfInBounds_toArray, List.set_cons_zero, List.set_cons_succ]
    refine lad_w (v := ?_) rfl rfl (fun xq wx => ?_) ?_
    rotate_left 1
    · (go_simp; with_reducible rfl)
    try simp only [Act.put, List.setIfInBounds_toArray, List.set_cons_zero, List.set_cons_succ]
    refine lad_t (v := ?_) rfl rfl (fun xq wx hS => ?_) ?_
    rotate_left 1
    · (have hc := (HCV.out.keep (St.fr hS) id).cell (i := 0) rfl; clear hS; go_simp; with_reducible rfl)
    try simp only [Act.put, List.setIfInBounds_toArray, List.set_cons_zero, List.set_cons_succ]
    refine lad_w (v := ?_) rfl rfl (fun xq wx => ?_) ?_
    rotate_left 1
    · (go_simp; with_reducible rfl)
    try simp only [Act.put, List.setIfInBounds_toArray, List.set_cons_zero, List.set_cons_succ]
    refine lad_arr rfl rfl rfl (fun _ => rfl) (cw 4 (elN m z1)) (fun wx hS => St.rangeL hS 0 rfl 8 _ (pt_z _ _ _)) Try.underlying70 rfl (by kernel_rfl) ?_
    try simp only [Act.put, List.setIfInBounds_toArray, List.set_cons_zero, List.set_cons_succ]
    refine lad_w (v := ?_) rfl rfl (fun xq wx => ?_) ?_
    rotate_left 1
    · (go_simp; with_reducible rfl)
    try simp only [Act.put, List.setIfInBounds_toArray, List.set_cons_zero, List.set_cons_succ]
    refine lad_arr rfl rfl rfl (fun _ => rfl) (cw 4 (elN m z2)) (fun wx hS => St.rangeL hS 1 rfl 8 _ (pt_z _ _ _)) Try.underlying70 rfl (by kernel_rfl) ?_
    try simp only [Act.put, List.setIfInBounds_toArray, List.set_cons_zero, List.set_cons_succ]
    refine lad_call rfl rfl rfl Try.call95 (fun w hS hR => MSub_v m gp _ HOK.out (HPM.out.keep hS.fr id) v X t2 Ht2.out) (fun _ => rfl) ?_
    try simp only [Act.put, List.setIfInBounds_toArray, List.set_cons_zero, List.set_cons_succ]
    refine lad_call rfl rfl rfl Try.call94 (fun w hS hR => MMul_v m gp _ HOK.out (HPM.out.keep hS.fr id) rr t2 t3 Ht3.out) (fun _ => rfl) ?_
    try simp only [Act.put, List.setIfInBounds_toArray, List.set_cons_zero, List.set_cons_succ]
    refine lad_call rfl rfl rfl Try.call94 (fun w hS hR => MMul_v m gp _ HOK.out (HPM.out.keep hS.fr id) s1 h3 t4 Ht4.out) (fun _ => rfl) ?_
    try simp only [Act.put, List.setIfInBounds_toArray, List.set_cons_zero, List.set_cons_succ]
    refine lad_call rfl rfl rfl Try.call95 (fun w hS hR => MSub_v m gp _ HOK.out (HPM.out.keep hS.fr id) t3 t4 Y HY.out) (fun _ => rfl) ?_
    try simp only [Act.put, List.setIfInBounds_toArray, List.set_cons_zero, List.set_cons_succ]
    refine lad_call rfl rfl rfl Try.call94 (fun w hS hR => MMul_v m gp _ HOK.out (HPM.out.keep hS.fr id) z1 z2 zz Hzz.out) (fun _ => rfl) ?_
    try simp only [Act.put, List.setIfInBounds_toArray, List.set_cons_zero, List.set_cons_succ]
    refine lad_call rfl rfl rfl Try.call94 (fun w hS hR => MMul_v m gp _ HOK.out (HPM.out.keep hS.fr id) hd zz Z HZ.out) (fun _ => rfl) ?_
    try simp only [Act.put, List.setIfInBounds_toArray, List.set_cons_zero, List.set_cons_succ]
    refine lad_w rfl rfl (fun _ => exec_build rfl _ (built_pt _ _ _)) ?_
    try simp only [Act.put, List.setIfInBounds_toArray, List.set_cons_zero, List.set_cons_succ]
    refine lad_end fun xq w27 st27 hR => ?_
    try dsimp only
    clear hR xq
    refine plan_m rfl rfl ?_
    refine wp_storeS st27 2 rfl rfl rfl rfl (by simp [cw_len]) (by kernel_rfl) (pt_one _ _ _) ?_
    intro w28 st28
    repeat (first | simp only [List.cons_append] at st28 | simp only [List.nil_append] at st28 | simp only [List.set_cons_succ] at st28 | simp only [List.set_cons_zero] at st28)
    clear st27
    try simp only [Act.put]
    refine plan_end ?_
    refine NoPanic.normal ?_
    have hr := st28.at 2 rfl
    have hfr := st28.fr
    clear st28
    go_wp2_with fail
    exact bodyPost_ret (results_st rfl rfl hr Try.underlying72 rfl (by kernel_rfl)) rfl ⟨by rw [HHZ.out]; rfl, hfr⟩
end Go.Proofs.Ytdbgddngapminaa

/- A program's sum of two points as the group's. -/
namespace Go.Proofs.Ytdbgddngapminaa
open Go.RowKit Go.Mv Mvp Mvq
theorem kc_zero' : kc 0 = 0 := by decide
/-- plus: of any points of the curve -/
theorem plus_is (x1 y1 z1 x2 y2 z2 : Nat) (ho1 : onC (jN x1 y1 z1)) (ho2 : onC (jN x2 y2 z2)) :
    ∃ X Y Z, jN X Y Z = padd (jN x1 y1 z1) (jN x2 y2 z2) ∧ ∀ gc gp bx by_ wx, Has wx gc (crvL mP gp bx by_) 93 → Has wx gp (mdL mP) 134 → Calls Try.prog 45 #[.pointer (some ⟨gc, 0, none⟩), ptV mP x1 y1 z1, ptV mP x2 y2 z2] wx fun e w' => e = .returned (ptV mP X Y Z) ∧ Fr Nob wx w' := by
  cases hb1 : (z1 % mP.M == 0)
  case true =>
    have hz : kc z1 = 0 := by simpa using z_is _ mP_fP z1 _ hb1
    refine ⟨x2, y2, z2, ?_, fun gc gp bx by_ wx hcv hpm => plus_none1 mP gc gp bx by_ wx mP_ok hcv hpm x1 y1 z1 x2 y2 z2 hb1⟩
    unfold jN
    rw [jk_z hz]; rfl
  case false =>
    have hz1 : kc z1 ≠ 0 := by simpa using z_is _ mP_fP z1 _ hb1
    cases hb2 : (z2 % mP.M == 0)
    case true =>
      have hz : kc z2 = 0 := by simpa using z_is _ mP_fP z2 _ hb2
      refine ⟨x1, y1, z1, ?_, fun gc gp bx by_ wx hcv hpm => plus_none2 mP gc gp bx by_ wx mP_ok hcv hpm x1 y1 z1 x2 y2 z2 hb1 hb2⟩
      unfold jN
      rw [jk_z hz, padd_zero]
    case false =>
      have hz2 : kc z2 ≠ 0 := by simpa using z_is _ mP_fP z2 _ hb2
      obtain ⟨pp, epp⟩ : ∃ q, z1 * z1 = q := ⟨_, rfl⟩
      obtain ⟨qq, eqq⟩ : ∃ q, z2 * z2 = q := ⟨_, rfl⟩
      obtain ⟨u1, eu1⟩ : ∃ q, x1 * qq = q := ⟨_, rfl⟩
      obtain ⟨u2, eu2⟩ : ∃ q, x2 * pp = q := ⟨_, rfl⟩
      obtain ⟨q3, eq3⟩ : ∃ q, qq * z2 = q := ⟨_, rfl⟩
      obtain ⟨s1, es1⟩ : ∃ q, y1 * q3 = q := ⟨_, rfl⟩
      obtain ⟨p3, ep3⟩ : ∃ q, pp * z1 = q := ⟨_, rfl⟩
      obtain ⟨s2, es2⟩ : ∃ q, y2 * p3 = q := ⟨_, rfl⟩
      obtain ⟨hd, ehd⟩ : ∃ q, u2 + (mP.M - u1 % mP.M) = q := ⟨_, rfl⟩
      obtain ⟨rr, err⟩ : ∃ q, s2 + (mP.M - s1 % mP.M) = q := ⟨_, rfl⟩
      have ku1 : kc u1 = kc x1 * (kc z2 * kc z2) := by rw [← eu1, ← eqq, kc_mul', kc_mul']
      have ku2 : kc u2 = kc x2 * (kc z1 * kc z1) := by rw [← eu2, ← epp, kc_mul', kc_mul']
      have ks1 : kc s1 = kc y1 * (kc z2 * kc z2 * kc z2) := by rw [← es1, ← eq3, ← eqq, kc_mul', kc_mul', kc_mul']
      have ks2 : kc s2 = kc y2 * (kc z1 * kc z1 * kc z1) := by rw [← es2, ← ep3, ← epp, kc_mul', kc_mul', kc_mul']
      have khd : kc hd = kc u2 - kc u1 := by rw [← ehd, kc_sub' _ mP_fP]
      have krr : kc rr = kc s2 - kc s1 := by rw [← err, kc_sub' _ mP_fP]
      obtain ⟨DX, DY, DZ, hX, hcall⟩ := double_is x1 y1 z1 ho1
      have hcal := fun gc gp bx by_ wx (hcv : Has wx gc (crvL mP gp bx by_) 93) (hpm : Has wx gp (mdL mP) 134) => gplus_any mP gc gp bx by_ wx mP_ok hcv hpm x1 y1 z1 x2 y2 z2 hb1 hb2 pp qq u1 u2 q3 s1 p3 s2 hd rr _ _ _ _ _ _ _ _ _ _ _ _ _ DX DY DZ epp eqq eu1 eu2 eq3 es1 ep3 es2 ehd err rfl rfl rfl rfl rfl rfl rfl rfl rfl rfl rfl rfl rfl (fun _ _ wy hf2 => hcall gc gp bx by_ wy (hcv.keep hf2 id) (hpm.keep hf2 id))
      cases hh : (hd % mP.M == 0)
      case false =>
        have hn : kc hd ≠ 0 := by simpa using z_is _ mP_fP hd _ hh
        rw [hh] at hcal
        refine ⟨_, _, _, ?_, fun gc gp bx by_ wx hcv hpm => hcal gc gp bx by_ wx hcv hpm⟩
        have h := jk_plus ho1 ho2 hz1 hz2 (kc u1) (kc u2) (kc s1) (kc s2) (kc hd) (kc rr) _ _ _ _ ku1 ku2 ks1 ks2 khd krr hn rfl rfl rfl rfl
        unfold jN at *
        rw [← h]
        simp only [kc_sub' _ mP_fP, kc_addn, kc_mul']
      case true =>
        have h0 : kc hd = 0 := by simpa using z_is _ mP_fP hd _ hh
        have hs := jk_same ho1 ho2 hz1 hz2 (by rw [← ku1, ← ku2, ← khd]; exact h0)
        rw [← ks1, ← ks2, ← krr] at hs
        cases hr : (rr % mP.M == 0)
        case true =>
          have hr0 : kc rr = 0 := by simpa using z_is _ mP_fP rr _ hr
          rw [hh, hr] at hcal
          refine ⟨DX, DY, DZ, ?_, fun gc gp bx by_ wx hcv hpm => hcal gc gp bx by_ wx hcv hpm⟩
          have e := hs.1 hr0
          unfold jN at *
          rw [hX, e]
        case false =>
          have hr0 : kc rr ≠ 0 := by simpa using z_is _ mP_fP rr _ hr
          rw [hh, hr] at hcal
          refine ⟨1, 1, 0, ?_, fun gc gp bx by_ wx hcv hpm => hcal gc gp bx by_ wx hcv hpm⟩
          have e := hs.2 hr0
          unfold jN at *
          rw [e, jk_z kc_zero']
end Go.Proofs.Ytdbgddngapminaa

/- A program's points as values: what the curve's functions answer. -/
namespace Go.Proofs.Ytdbgddngapminaa
open Go.RowKit Go.Mv Mvp Mvq
/-- the base's coordinates -/
def gXn : Nat := 0x79BE667EF9DCBBAC55A06295CE870B07029BFCDB2DCE28D959F2815B16F81798
def gYn : Nat := 0x483ADA7726A3C4655DA4FBFC0E1108A8FD17B448A68554199C47D08FFB10D4B8
/-- a point of the program's -/
structure PT where
  x : Nat
  y : Nat
  z : Nat
  on : onC (jN x y z)
def PT.pt (s : PT) : Pt := jN s.x s.y s.z
def PT.L (s : PT) : List Value := ptL mP s.x s.y s.z
theorem PT.len (s : PT) : s.L.length = 12 := ptL_len _ _ _ _
theorem PT.one (s : PT) : ∀ v ∈ s.L, v.oneCell' = true := pt_one _ _ _
theorem PT.onP (s : PT) : onC s.pt := s.on
/-- the curve lies at a place -/
def Cv (w : World) (gc : Nat) : Prop := ∃ gp, Has w gc (crvL mP gp gXn gYn) 93 ∧ Has w gp (mdL mP) 134
theorem Cv.keep {w w' : World} {gc : Nat} (h : Cv w gc) (hf : Fr Nob w w') : Cv w' gc := by
  obtain ⟨gp, h1, h2⟩ := h
  exact ⟨gp, h1.keep hf id, h2.keep hf id⟩
theorem dblT_ex (s : PT) : ∃ t : PT, t.pt = padd s.pt s.pt ∧ ∀ gc wx, Cv wx gc → Calls Try.prog 97 #[.pointer (some ⟨gc, 0, none⟩), (.agg s.L.toArray)] wx fun e w' => e = .returned (.agg t.L.toArray) ∧ Fr Nob wx w' := by
  obtain ⟨X, Y, Z, h1, h2⟩ := double_is s.x s.y s.z s.on
  refine ⟨⟨X, Y, Z, by rw [h1]; exact padd_on s.on s.on⟩, h1, ?_⟩
  rintro gc wx ⟨gp, a, b⟩
  exact h2 gc gp gXn gYn wx a b
theorem addT_ex (s t : PT) : ∃ r : PT, r.pt = padd s.pt t.pt ∧ ∀ gc wx, Cv wx gc → Calls Try.prog 45 #[.pointer (some ⟨gc, 0, none⟩), (.agg s.L.toArray), (.agg t.L.toArray)] wx fun e w' => e = .returned (.agg r.L.toArray) ∧ Fr Nob wx w' := by
  obtain ⟨X, Y, Z, h1, h2⟩ := plus_is s.x s.y s.z t.x t.y t.z s.on t.on
  refine ⟨⟨X, Y, Z, by rw [h1]; exact padd_on s.on t.on⟩, h1, ?_⟩
  rintro gc wx ⟨gp, a, b⟩
  exact h2 gc gp gXn gYn wx a b
noncomputable def dblT (s : PT) : PT := Classical.choose (dblT_ex s)
noncomputable def addT (s t : PT) : PT := Classical.choose (addT_ex s t)
theorem dblT_pt (s : PT) : (dblT s).pt = padd s.pt s.pt := (Classical.choose_spec (dblT_ex s)).1
theorem addT_pt (s t : PT) : (addT s t).pt = padd s.pt t.pt := (Classical.choose_spec (addT_ex s t)).1
theorem double_c (s : PT) (gc : Nat) (w : World) (h : Cv w gc) : Calls Try.prog 97 #[.pointer (some ⟨gc, 0, none⟩), (.agg s.L.toArray)] w fun e w' => e = .returned (.agg (dblT s).L.toArray) ∧ Fr Nob w w' :=
  (Classical.choose_spec (dblT_ex s)).2 gc w h
theorem plus_c (s t : PT) (gc : Nat) (w : World) (h : Cv w gc) : Calls Try.prog 45 #[.pointer (some ⟨gc, 0, none⟩), (.agg s.L.toArray), (.agg t.L.toArray)] w fun e w' => e = .returned (.agg (addT s t).L.toArray) ∧ Fr Nob w w' :=
  (Classical.choose_spec (addT_ex s t)).2 gc w h
theorem kc_one2 : kc 1 = 1 := by decide
def noT : PT := ⟨1, 1, 0, by unfold jN; rw [jk_z (by decide)]; trivial⟩
theorem noT_pt : noT.pt = .O := by show jN 1 1 0 = .O; unfold jN; rw [jk_z (by decide)]
theorem nothing_c (gc : Nat) (w : World) (h : Cv w gc) : Calls Try.prog 88 #[.pointer (some ⟨gc, 0, none⟩)] w fun e w' => e = .returned (.agg noT.L.toArray) ∧ Fr Nob w w' := by
  obtain ⟨gp, a, b⟩ := h
  exact nothing_any mP gc gp gXn gYn w mP_ok a b
/-- a point of a first and a second coordinate -/
theorem jN_one (x y : Nat) : jN x y 1 = .A (kc x) (kc y) := by
  unfold jN
  refine jk_is (by decide) ?_ ?_
  · rw [kc_one2]; grind -lia -linarith
  · rw [kc_one2]; grind -lia -linarith
def affT (x y : Nat) (h : onC (.A (kc x) (kc y))) : PT := ⟨x, y, 1, by rw [jN_one]; exact h⟩
theorem affT_pt (x y : Nat) (h : onC (.A (kc x) (kc y))) : (affT x y h).pt = .A (kc x) (kc y) := jN_one x y
theorem base_on : onC (.A (kc gXn) (kc gYn)) := by
  show kc gYn * kc gYn = kc gXn * kc gXn * kc gXn + 7
  decide
def baseT : PT := affT gXn gYn base_on
theorem baseT_pt : baseT.pt = .A (kc gXn) (kc gYn) := affT_pt _ _ _
/-- nothing, as the program asks -/
def PT.isO (s : PT) : Bool := s.z % mP.M == 0
theorem PT.isO_t {s : PT} (h : s.isO = true) : s.pt = .O := by
  have hz : kc s.z = 0 := by simpa using z_is _ mP_fP s.z _ h
  exact jk_z hz
theorem PT.isO_f {s : PT} (h : s.isO = false) : kc s.z ≠ 0 := by simpa using z_is _ mP_fP s.z _ h
end Go.Proofs.Ytdbgddngapminaa

/- More makers of one block for the steps of a drawn region: slice literals, boxes; operations that only yield a value. -/
namespace Go.Mv
open Go.RowKit
section
variable {P : Program} {Q : Exit → Act → World → Prop} {Sx : World → Prop} {S : Nat → Prop} {w0 : World} {tl : Pl} {l : List Oper} {i : Nat} {s : List LS} {Γ : List Flt} {BL : List Blk} {R : World → Prop} {A : (Nat → Value) → Act} {o : Oper}
end
end Go.Mv

/- The reference's points: G, Written. -/
namespace Go.Proofs.Ytdbgddngapminaa
open Go.RowKit Go.Mv Mvp Mvq
theorem gX_bytes : beN [121, 190, 102, 126, 249, 220, 187, 172, 85, 160, 98, 149, 206, 135, 11, 7, 2, 155, 252, 219, 45, 206, 40, 217, 89, 242, 129, 91, 22, 248, 23, 152] = gXn := by decide
theorem ROfG (w : World) : Calls Try.prog 39 #[.string ⟨#[121, 190, 102, 126, 249, 220, 187, 172, 85, 160, 98, 149, 206, 135, 11, 7, 2, 155, 252, 219, 45, 206, 40, 217, 89, 242, 129, 91, 22, 248, 23, 152]⟩] w fun e w' => e = .returned (i4 (kN (kc gXn))) ∧ Fr Nob w w' := by
  have h := Of_any ⟨#[121, 190, 102, 126, 249, 220, 187, 172, 85, 160, 98, 149, 206, 135, 11, 7, 2, 155, 252, 219, 45, 206, 40, 217, 89, 242, 129, 91, 22, 248, 23, 152]⟩ w (by decide)
  have e : beN [121, 190, 102, 126, 249, 220, 187, 172, 85, 160, 98, 149, 206, 135, 11, 7, 2, 155, 252, 219, 45, 206, 40, 217, 89, 242, 129, 91, 22, 248, 23, 152] = kN (kc gXn) := by rw [gX_bytes]; decide
  rw [← e]
  exact h
theorem gY_even : gYn % fP = gYn ∧ gYn % 2 = 0 ∧ gYn < fP := by decide
theorem g_rt : rtOk fP (kN (kc gXn * kc gXn * kc gXn + 7)) = true ∧ kc (rtV fP (kN (kc gXn * kc gXn * kc gXn + 7))) = kc gYn := by
  have hb : kc gYn * kc gYn = kc gXn * kc gXn * kc gXn + 7 := base_on
  rw [← hb]
  have e : kN (kc gYn * kc gYn) = gYn * gYn % fP := by rw [← kc_mul', kN_kc]
  have fp : FP fP := by rw [← pP_fP]; exact FP_P
  have h4 : fP % 4 = 3 := by decide
  have ho := root_sq fp h4 gY_even.2.2
  rw [e]
  refine ⟨ho, ?_⟩
  have hlt : gYn * gYn % fP < fP := Nat.mod_lt _ (by decide)
  have hsq := root_square fp hlt ho
  have hev := root_even fp (x := gYn * gYn % fP)
  have h2 := sq_two fp.prime gY_even.2.2 (Nat.mod_lt (rtV fP (gYn * gYn % fP)) (by decide : 0 < fP)) (by rw [hsq])
  have hy := gY_even.2.1
  rcases h2 with h2 | h2
  · rw [← kc_mod, h2]
  · exfalso
    have h3 : (fP - gYn) % fP = fP - gYn := by decide
    rw [h2, h3] at hev
    have h5 : (fP - gYn) % 2 = 1 := by decide
    omega
noncomputable def baseR : RT := affR (kc gXn) (kc gYn) base_on
theorem baseR_pt : baseR.pt = .A (kc gXn) (kc gYn) := affR_pt _ _ _
theorem RatG (w : World) : Calls Try.prog 37 #[i4 (kN (kc gXn))] w fun e w' => e = .returned (.tuple #[.agg baseR.L.toArray, .bool true]) ∧ Fr Nob w w' := by
  have h := Rat_t (kc gXn) _ _ _ rfl rfl rfl g_rt.1 w
  rw [g_rt.2] at h
  exact h
theorem z_u8 : (List.replicate 33 (Value.int .u8 0)) = bs (List.replicate 33 0) := by rfl
attribute [local irreducible] limbs lw mix cw cSub cAdd cMul foldC valFrom beN laid be32 powm montT mstep elN mdL numB rtV rtOk kN kc kinv wrPt addR noR timesR tmsR RT.L gXn gYn
set_option maxHeartbeats 16000000 in
set_option maxRecDepth 1000000 in
theorem RG_c (w : World) : Calls Try.prog 111 #[] w fun e w' => e = .returned (.agg baseR.L.toArray) ∧ Fr Nob w w' := by
  have st0 := St.start Nob w
  go_enter Try.func111, Try.ntmps111
  go_wp2_with (with_reducible refine wl_stop (o := ⟨some 0, _, _, _, _, _⟩) ?_)
  refine wl_allocS st0 rfl rfl (z := .agg #[.int .u64 0, .int .u64 0, .int .u64 0, .int .u64 0, .int .u64 0, .int .u64 0, .int .u64 0, .int .u64 0, .int .u64 0, .int .u64 0, .int .u64 0, .int .u64 0]) (by kernel_rfl) (cw 12 0) (by rw [cw_zero]; rfl) ?_
  intro g0 w1 st1
  clear st0
  go_wp2_with fail
  refine (ROfG _).mono ?_
  rintro e' w2 ⟨rfl, hf2⟩
  have st2 := st1.keep hf2
  clear st1 hf2
  go_wp2_with (with_reducible refine wl_stop (o := ⟨some 1, _, _, _, _, _⟩) ?_)
  refine wl_allocS st2 rfl rfl (z := .agg #[.int .u64 0, .int .u64 0, .int .u64 0, .int .u64 0]) (by kernel_rfl) (cw 4 0) (by rw [cw_zero]; rfl) ?_
  intro g1 w3 st3
  clear st2
  go_wp2_with (with_reducible refine wl_stop (o := ⟨none, _, _, _, _, _⟩) ?_)
  refine wl_storeS st3 1 rfl rfl rfl rfl rfl (by first | (simp [cw_len]; done) | (simp [RT.len]; done) | (simp [rpL_len]; done) | (simp [cw_len, RT.len]; done) | (simp [cw_len, rpL_len]; done) | simp [cw_len, RT.len, rpL_len]) (by kernel_rfl) (cw_one _ _) ?_
  intro w4 st4
  clear st3
  go_wp2_with (with_reducible refine wl_stop (o := ⟨some 6, _, _, _, _, _⟩) ?_)
  refine wl_loadS st4 1 rfl rfl rfl Try.underlying24 rfl (by kernel_rfl) ?_
  go_wp2_with fail
  refine (RatG _).mono ?_
  rintro e' w5 ⟨rfl, hf5⟩
  have st5 := st4.keep hf5
  clear st4 hf5
  go_wp2_with (with_reducible refine wl_stop (o := ⟨some 2, _, _, _, _, _⟩) ?_)
  refine wl_allocS st5 rfl rfl (z := .agg #[.int .u64 0, .int .u64 0, .int .u64 0, .int .u64 0, .int .u64 0, .int .u64 0, .int .u64 0, .int .u64 0, .int .u64 0, .int .u64 0, .int .u64 0, .int .u64 0]) (by kernel_rfl) (cw 12 0) (by rw [cw_zero]; rfl) ?_
  intro g2 w6 st6
  clear st5
  go_wp2_with (with_reducible refine wl_stop (o := ⟨none, _, _, _, _, _⟩) ?_)
  refine wl_storeS st6 2 rfl rfl rfl rfl rfl (by first | (simp [cw_len]; done) | (simp [RT.len]; done) | (simp [rpL_len]; done) | (simp [cw_len, RT.len]; done) | (simp [cw_len, rpL_len]; done) | simp [cw_len, RT.len, rpL_len]) (by kernel_rfl) (RT.one _) ?_
  intro w7 st7
  clear st6
  go_wp2_with (with_reducible refine wl_stop (o := ⟨some 10, _, _, _, _, _⟩) ?_)
  refine wl_loadSt st7 2 rfl rfl rfl Try.underlying26 rfl rfl (by kernel_rfl) ?_
  go_wp2_with (with_reducible refine wl_stop (o := ⟨none, _, _, _, _, _⟩) ?_)
  refine wl_storeS st7 0 rfl rfl rfl rfl rfl (by first | (simp [cw_len]; done) | (simp [RT.len]; done) | (simp [rpL_len]; done) | (simp [cw_len, RT.len]; done) | (simp [cw_len, rpL_len]; done) | simp [cw_len, RT.len, rpL_len]) (by kernel_rfl) (RT.one _) ?_
  intro w8 st8
  clear st7
  have hr := st8.at 0 rfl
  have hfr := st8.fr
  clear st8
  go_wp2_with fail
  exact bodyPost_ret (results_st rfl rfl hr Try.underlying26 rfl (by kernel_rfl)) rfl ⟨rfl, hfr⟩

end Go.Proofs.Ytdbgddngapminaa
namespace Go.Proofs.Ytdbgddngapminaa
open Go.RowKit Go.Mv Mvp Mvq
end Go.Proofs.Ytdbgddngapminaa

/- A plan for a region whose operations have guards. -/
namespace Go.Mv
open Go.RowKit
section
variable {P : Program} {ops : Array Oper} {md : Region.Mode} {Q : Exit → Act → World → Prop} {S : World → Prop} {m : Nat}
def wpPlanG (P : Program) (ops : Array Oper) (Q : Exit → Act → World → Prop) (S : World → Prop) : Pl → Act → World → Prop
  | .nil, a, w => Q .normal a w
  | .w i s, a, w => ∃ o v, ops[i]? = some o ∧ YieldsIf P ops (fun _ => True) o v a ∧ wpPlanG P ops Q S s (a.put o.dst v) w
  | .t i s, a, w => ∃ o v, ops[i]? = some o ∧ YieldsIf P ops S o v a ∧ wpPlanG P ops Q S s (a.put o.dst v) w
  | .r i s, a, w => wpOp P ops Q i (fun a' w' => S w' ∧ wpPlanG P ops Q S s a' w') a w
  | .m i s, a, w => wpOp P ops Q i (fun a' w' => wpPlanG P ops Q S s a' w') a w
  | .b _ _ _ _, _, _ => False
  | .c _ _ _ _ _ _, _, _ => False
theorem wpP_of_planG (hsel : Region.noSelect ops = true) (hm : m < ops.size) (hQ : ∀ c (d : Option Tmp) v a w, Q (.panic c) (Act.put a d v) w → Q (.panic c) a w) :
    ∀ (s : Pl) (listed : Array Bool) (a : Act) (w : World), Cl md ops listed → planOk md ops m s listed = true → (listed.getD m true = false → S w) → wpPlanG P ops Q S s a w → wpP P md ops Q S m s.len listed a w
  | .nil, listed, a, w, _, hB, _, h => ⟨by simpa [planOk] using hB, h⟩
  | .w i r, listed, a, w, inv, hB, hS, h => by
    obtain ⟨o, v, ho, hy, hK⟩ := h
    simp only [planOk, Bool.and_eq_true, decide_eq_true_eq] at hB
    obtain ⟨⟨⟨him, hr⟩, hf⟩, hB'⟩ := hB
    have hr' : i ∈ Region.ready md ops listed := by simpa using hr
    exact wpP_takeW ho (Region.noSelect_spec hsel) (fun c a w => hQ c o.dst v a w) him hm r.len listed a w inv (Region.free_spec ho hf) hr' hy hS
      (wpP_of_planG hsel hm hQ r _ _ w (inv.set hr') hB' (fun h => hS (by rwa [getD_set_ne true him] at h)) hK)
  | .t i r, listed, a, w, inv, hB, hS, h => by
    obtain ⟨o, v, ho, hy, hK⟩ := h
    simp only [planOk, Bool.and_eq_true, decide_eq_true_eq] at hB
    obtain ⟨⟨⟨⟨⟨him, hml⟩, hr⟩, hf⟩, han⟩, hB'⟩ := hB
    have hr' : i ∈ Region.ready md ops listed := by simpa using hr
    exact wpP_takeS ho (Region.noSelect_spec hsel) (fun c a w => hQ c o.dst v a w) him han r.len listed a w inv hml (Region.free_spec ho hf) hr' hy (hS hml)
      (wpP_of_planG hsel hm hQ r _ _ w (inv.set hr') hB' (fun _ => hS hml) hK)
  | .r i r, listed, a, w, inv, hB, hS, h => by
    simp only [planOk, Bool.and_eq_true, decide_eq_true_eq] at hB
    obtain ⟨⟨⟨him, hml⟩, hr⟩, hB'⟩ := hB
    have hr' : i ∈ Region.ready md ops listed := by rw [hr]; simp
    refine ⟨fun h0 => (by rw [hr] at h0; cases h0), fun j hj => ?_⟩
    rw [hr] at hj
    have hj' : j = i := by simpa using hj
    subst hj'
    exact wpOp_mono (fun a' w' h' => ⟨fun _ _ => h'.1, wpP_of_planG hsel hm hQ r _ a' w' (inv.set hr') hB' (fun _ => h'.1) h'.2⟩) h
  | .m i r, listed, a, w, inv, hB, hS, h => by
    simp only [planOk, Bool.and_eq_true, Bool.or_eq_true, decide_eq_true_eq] at hB
    obtain ⟨⟨him, hr⟩, hB'⟩ := hB
    have hr' : i ∈ Region.ready md ops listed := by rw [hr]; simp
    refine ⟨fun h0 => (by rw [hr] at h0; cases h0), fun j hj => ?_⟩
    rw [hr] at hj
    have hj' : j = i := by simpa using hj
    subst hj'
    have hml : (listed.setIfInBounds j true).getD m true = true := by
      rcases him with e | e
      · subst e; exact getD_set_self (by rw [inv.size]; exact hm)
      · by_cases e2 : j = m
        · subst e2; exact getD_set_self (by rw [inv.size]; exact hm)
        · rw [getD_set_ne true e2]; exact e
    refine wpOp_mono (fun a' w' h' => ⟨fun h1 h2 => ?_, wpP_of_planG hsel hm hQ r _ a' w' (inv.set hr') hB' (fun h1 => by rw [hml] at h1; cases h1) h'⟩) h
    rcases him with e | e
    · exact absurd e h2
    · rw [e] at h1; cases h1
  | .b _ _ _ _, _, _, _, _, _, _, h => h.elim
  | .c _ _ _ _ _ _, _, _, _, _, _, _, h => h.elim
theorem wp_region_planG {id : Nat} {a : Act} {w : World} {l : List Oper} (S : World → Prop) (m : Nat) (s : Pl) (hm : P.follows .mixedOrders = true) (hB : planAll l.toArray m s = true)
    (hS : S w.drew) (hQ : ∀ c (d : Option Tmp) v a w, Q (.panic c) (Act.put a d v) w → Q (.panic c) a w)
    (h : wpPlanG P l.toArray Q S s a w.drew) : (Code.region id l.toArray true).wp P Q a w := by
  simp only [planAll, Bool.and_eq_true, decide_eq_true_eq] at hB
  obtain ⟨⟨⟨hsel, hms⟩, hlen⟩, hseq⟩ := hB
  have inv0 : Cl .any l.toArray (Array.replicate l.toArray.size false) :=
    ⟨by simp, fun j oj _ hl => (by rw [getD_replicate_false] at hl; cases hl)⟩
  have H := wpP_of_planG (md := .any) hsel hms hQ s _ a w.drew inv0 hseq (fun _ => hS) h
  rw [hlen] at H
  exact wp_region_any hm (wpAny_of_P _ _ _ _ H)
variable {l : List Oper} {i : Nat} {s : Pl} {a : Act} {w : World} {o : Oper}
theorem planG_end (h : Q .normal a w) : wpPlanG P ops Q S .nil a w := h
theorem planG_w (ho : l[i]? = some o) (hg : Region.wanted o (yielded l.toArray a.tmps) = true) {v : Value} (hv : ∀ wx, (execOp a.eval o).run P wx = .ok (.value v) wx) (h : wpPlanG P l.toArray Q S s (a.put o.dst v) w) : wpPlanG P l.toArray Q S (.w i s) a w :=
  ⟨o, v, by simpa using ho, .inl ⟨hg, fun wx _ => hv wx⟩, h⟩
theorem planG_skip (ho : l[i]? = some o) (hg : Region.wanted o (yielded l.toArray a.tmps) = false) (h : wpPlanG P l.toArray Q S s (a.put o.dst undef) w) : wpPlanG P l.toArray Q S (.w i s) a w :=
  ⟨o, undef, by simpa using ho, .inr ⟨hg, rfl⟩, h⟩
theorem planG_skipt (ho : l[i]? = some o) (hg : Region.wanted o (yielded l.toArray a.tmps) = false) (h : wpPlanG P l.toArray Q S s (a.put o.dst undef) w) : wpPlanG P l.toArray Q S (.t i s) a w :=
  ⟨o, undef, by simpa using ho, .inr ⟨hg, rfl⟩, h⟩
theorem planG_t (ho : l[i]? = some o) (hg : Region.wanted o (yielded l.toArray a.tmps) = true) {v : Value} (hv : ∀ wx, S wx → (execOp a.eval o).run P wx = .ok (.value v) wx) (h : wpPlanG P l.toArray Q S s (a.put o.dst v) w) : wpPlanG P l.toArray Q S (.t i s) a w :=
  ⟨o, v, by simpa using ho, .inl ⟨hg, hv⟩, h⟩
theorem planG_arr (ho : l[i]? = some o) (hg : Region.wanted o (yielded l.toArray a.tmps) = true) {ty : TypeId} {x : Operand} (hop : o.op = .load ty x) {g p : Nat} (hx : a.eval x = .pointer (some ⟨g, p, none⟩)) (cs : List Value) (hS : ∀ wx, S wx → wx.rangeAt g p cs)
    {d : TypeDesc} (hu : P.underlying ty = some d) (hd : d.isRow = true) (hi : (P.info? ty).map (·.size) = some cs.length) (h : wpPlanG P l.toArray Q S s (a.put o.dst (.agg cs.toArray)) w) : wpPlanG P l.toArray Q S (.t i s) a w :=
  ⟨o, _, by simpa using ho, yieldsIf_load_mid hg ty x hop g p hx cs d hS hu hd hi, h⟩
theorem planG_r (ho : l[i]? = some o) (hg : Region.wanted o (yielded l.toArray a.tmps) = true) (h : o.wp P a w (fun a' w' => S w' ∧ wpPlanG P l.toArray Q S s a' w') Q) : wpPlanG P l.toArray Q S (.r i s) a w := by
  have ho' : l.toArray[i]? = some o := by simpa using ho
  show wpOp _ _ _ _ _ _ _
  unfold wpOp
  simp only [ho']
  rw [if_pos hg]
  exact .inl h
theorem planG_rskip (ho : l[i]? = some o) (hg : Region.wanted o (yielded l.toArray a.tmps) = false) (h : S w ∧ wpPlanG P l.toArray Q S s (a.put o.dst undef) w) : wpPlanG P l.toArray Q S (.r i s) a w := by
  have ho' : l.toArray[i]? = some o := by simpa using ho
  show wpOp _ _ _ _ _ _ _
  unfold wpOp
  simp only [ho']
  rw [if_neg (by rw [hg]; decide)]
  exact h
theorem planG_m (ho : l[i]? = some o) (hg : Region.wanted o (yielded l.toArray a.tmps) = true) (h : o.wp P a w (fun a' w' => wpPlanG P l.toArray Q S s a' w') Q) : wpPlanG P l.toArray Q S (.m i s) a w := by
  have ho' : l.toArray[i]? = some o := by simpa using ho
  show wpOp _ _ _ _ _ _ _
  unfold wpOp
  simp only [ho']
  rw [if_pos hg]
  exact .inl h
end
end Go.Mv
