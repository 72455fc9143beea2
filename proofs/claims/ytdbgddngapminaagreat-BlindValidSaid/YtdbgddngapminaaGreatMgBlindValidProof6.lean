/- The reference's points: None, Is, Neg, double, Plus; The reference's points as values: what its Plus, Neg, None answer; The reference's points: Times, at, G; More makers of one block for the steps of a drawn region: slice literals, boxes; operations that only yield a value; The reference's points: G, Written; The reference's points: Read; The reference's Read, for all bytes; its Base, its Same; The reference's Read and Number, each as one contract; the law's told; num.Dot: what it answers; Pure sponge: what the program's and the reference's permutation compute, and that the two are one; word functions of the sponge; the constants of the rounds, and how far the lanes are turned; how far the lanes are turned; the state: bytes are added, and given; the state's bytes; Permute; the permutation of the program. -/
import Derived.Test.YtdbgddngapminaaGreatMgBlindValidProof5
import Derived.Test.YtdbgddngapminaaGreatMgBlindValidProof3
import Derived.Test.YtdbgddngapminaaGreatMgBlindValidProof2
import Derived.Test.YtdbgddngapminaaGreatMgBlindValidProof4
import Derived.KernelRfl
import Derived.Test.YtdbgddngapminaaGreatMgBlindValidProof1
namespace Go.Proofs.YtdbgddngapminaaGreat
open Go.RowKit Go.Mv Mvp Mvq
/-- a point's cells, as the reference has it -/
def rpL (x y z : K) : List Value := cw 4 (kN x) ++ (cw 4 (kN y) ++ cw 4 (kN z))
def rpV (x y z : K) : Value := .agg (rpL x y z).toArray
theorem kN_zero : kN 0 = 0 := rfl
theorem built_rp (a b c : Nat) : Tryz.prog.built 34 [(0, i4 a), (1, i4 b), (2, i4 c)] = some (cw 4 a ++ (cw 4 b ++ cw 4 c)).toArray := by kernel_rfl
theorem built_rp1 (b : Nat) : Tryz.prog.built 34 [(1, i4 b)] = some (cw 4 0 ++ (cw 4 b ++ cw 4 0)).toArray := by kernel_rfl
theorem z_rn : (Tryz.prog.info? 32).map (·.zero) = some (some (.agg (cw 4 0).toArray)) := by kernel_rfl
attribute [local irreducible] limbs lw mix cw cSub cAdd cMul foldC valFrom beN laid be32 powm montT mstep elN mdL numB rtV rtOk kN kc kinv wrPt
set_option maxHeartbeats 16000000 in
set_option maxRecDepth 1000000 in
theorem RNone_any (w : World) : Calls Tryz.prog 54 #[] w fun e w' => e = .returned (rpV 0 1 0) ∧ Fr Nob w w' := by
  have st0 := St.start Nob w
  go_enter Tryz.func54, Tryz.ntmps54
  go_wp2_with (with_reducible refine wl_stop (o := ⟨some 0, _, _, _, _, _⟩) ?_)
  refine wl_allocS st0 rfl rfl (z := .agg #[.int .u64 0, .int .u64 0, .int .u64 0, .int .u64 0, .int .u64 0, .int .u64 0, .int .u64 0, .int .u64 0, .int .u64 0, .int .u64 0, .int .u64 0, .int .u64 0]) (by kernel_rfl) (cw 12 0) (by rw [cw_zero]; rfl) ?_
  intro g0 w1 st1
  clear st0
  go_wp2_with fail
  refine (KSmall1 _).mono ?_
  rintro e' w2 ⟨rfl, hf2⟩
  have st2 := st1.keep hf2
  clear st1 hf2
  go_wp2_with (with_reducible refine wl_stop (o := ⟨some 2, _, _, _, _, _⟩) ?_)
  refine wl_buildL rfl rfl _ (built_rp1 _) ?_
  go_wp2_with (with_reducible refine wl_stop (o := ⟨none, _, _, _, _, _⟩) ?_)
  refine wl_storeS st2 0 rfl rfl rfl rfl rfl (by simp [cw_len]) (by kernel_rfl) (pt_one _ _ _) ?_
  intro w3 st3
  clear st2
  have hr := st3.at 0 rfl
  have hfr := st3.fr
  clear st3
  go_wp2_with fail
  exact bodyPost_ret (results_st rfl rfl hr Tryz.underlying34 rfl (by kernel_rfl)) rfl ⟨by unfold rpV rpL; rw [kN_zero], hfr⟩

set_option maxHeartbeats 16000000 in
set_option maxRecDepth 1000000 in
theorem RIs_any (x y z : K) (b : Bool) (hb : decide (z = 0) = b) (w : World) : Calls Tryz.prog 32 #[rpV x y z] w fun e w' => e = .returned (.bool b) ∧ Fr Nob w w' := by
  have HB := Lib.hid hb
  clear hb
  unfold rpV rpL
  have st0 := St.start Nob w
  go_enter Tryz.func32, Tryz.ntmps32
  go_wp2_with (with_reducible refine wl_stop (o := ⟨some 1, _, _, _, _, _⟩) ?_)
  refine wl_boxS st0 rfl rfl rfl (cw 4 (kN x) ++ (cw 4 (kN y) ++ cw 4 (kN z))) rfl ?_
  intro g1 w1 st1
  clear st0
  go_wp2_with (with_reducible refine wl_stop (o := ⟨some 4, _, _, _, _, _⟩) ?_)
  refine wl_loadA rfl rfl Tryz.underlying32 rfl (st1.at 0 rfl) (cw 4 (kN z)) (pt_z _ _ _) (by kernel_rfl) ?_
  go_wp2_with fail
  refine (KZero z b HB.out _).mono ?_
  rintro e' w2 ⟨rfl, hf2⟩
  have st2 := st1.keep hf2
  clear st1 hf2
  have hfr := st2.fr
  clear st2
  go_wp2_with fail
  go_ret
  exact ⟨rfl, hfr⟩

set_option maxHeartbeats 16000000 in
set_option maxRecDepth 1000000 in
theorem Rdouble_v (x y z : K) (xx d1 d y2 ee e2 e3 t1 t2 x2 t3 t X s1 s2 s3 s4 Y Z : K) (exx : x * x = xx) (ed1 : xx + xx = d1) (ed : d1 + xx = d) (ey2 : y + y = y2) (eee : y2 * z = ee) (ee2 : ee * ee = e2) (ee3 : e2 * ee = e3) (et1 : d * d = t1) (et2 : t1 * z = t2) (ex2 : x + x = x2) (et3 : x2 * e2 = t3) (et : t2 - t3 = t) (eX : ee * t = X) (es1 : x * e2 = s1) (es2 : s1 - t = s2) (es3 : d * s2 = s3) (es4 : y * e3 = s4) (eY : s3 - s4 = Y) (eZ : e3 * z = Z) (w : World) : Calls Tryz.prog 86 #[rpV x y z] w fun e w' => e = .returned (rpV X Y Z) ∧ Fr Nob w w' := by
  have Hxx := Lib.hid exx
  have Hd1 := Lib.hid ed1
  have Hd := Lib.hid ed
  have Hy2 := Lib.hid ey2
  have Hee := Lib.hid eee
  have He2 := Lib.hid ee2
  have He3 := Lib.hid ee3
  have Ht1 := Lib.hid et1
  have Ht2 := Lib.hid et2
  have Hx2 := Lib.hid ex2
  have Ht3 := Lib.hid et3
  have Ht := Lib.hid et
  have HX := Lib.hid eX
  have Hs1 := Lib.hid es1
  have Hs2 := Lib.hid es2
  have Hs3 := Lib.hid es3
  have Hs4 := Lib.hid es4
  have HY := Lib.hid eY
  have HZ := Lib.hid eZ
  clear exx ed1 ed ey2 eee ee2 ee3 et1 et2 ex2 et3 et eX es1 es2 es3 es4 eY eZ
  unfold rpV rpL
  have st0 := St.start Nob w
  go_enter Tryz.func86, Tryz.ntmps86
  go_wp2_with (with_reducible refine wl_stop (o := ⟨some 1, _, _, _, _, _⟩) ?_)
  refine wl_boxS st0 rfl rfl rfl (cw 4 (kN x) ++ (cw 4 (kN y) ++ cw 4 (kN z))) rfl ?_
  intro g1 w1 st1
  clear st0
  go_wp2_with (with_reducible refine wl_stop (o := ⟨some 2, _, _, _, _, _⟩) ?_)
  refine wl_allocS st1 rfl rfl (z := .agg #[.int .u64 0, .int .u64 0, .int .u64 0, .int .u64 0, .int .u64 0, .int .u64 0, .int .u64 0, .int .u64 0, .int .u64 0, .int .u64 0, .int .u64 0, .int .u64 0]) (by kernel_rfl) (cw 12 0) (by rw [cw_zero]; rfl) ?_
  intro g2 w2 st2
  clear st1
  go_wp2_with fail
  refine wp_region_noPanic ?_
  refine wp_region_lad st2 7 [.o 6, .w 1, .t 2, .w 3, .t 4, .c 0, .c 5, .j 6] (.m 7 .nil) (by kernel_rfl) (by kernel_rfl) (fun _ _ _ _ _ h => h) ?_
  clear st2
  refine lad_o rfl rfl rfl z_rn (cw 4 0) rfl ?_
  try simp only [Go.Mv.clL]
  refine lad_w (v := ?_) rfl rfl (fun xq wx => ?_) ?_; rotate_left 1; · (go_simp; with_reducible rfl)
  try simp only [Go.Mv.clL]
  refine lad_arr rfl rfl rfl (fun _ => rfl) (cw 4 (kN x)) (fun wx hS => St.rangeL hS 0 rfl 0 _ (pt_x _ _ _)) Tryz.underlying32 rfl (by kernel_rfl) ?_
  try simp only [Go.Mv.clL]
  refine lad_w (v := ?_) rfl rfl (fun xq wx => ?_) ?_; rotate_left 1; · (go_simp; with_reducible rfl)
  try simp only [Go.Mv.clL]
  refine lad_arr rfl rfl rfl (fun _ => rfl) (cw 4 (kN x)) (fun wx hS => St.rangeL hS 0 rfl 0 _ (pt_x _ _ _)) Tryz.underlying32 rfl (by kernel_rfl) ?_
  try simp only [Go.Mv.clL]
  refine lad_call rfl rfl rfl Tryz.call33 (fun w hS hR => RF_any _) (fun _ => rfl) ?_
  try simp only [Go.Mv.clL]
  refine lad_call rfl rfl rfl Tryz.call35 (fun w hS hR => KMul x x xx Hxx.out _) (fun _ => rfl) ?_
  try simp only [Go.Mv.clL]
  refine lad_j List.mem_cons_self fun g3 => ?_
  simp only [upd, reduceIte]
  refine lad_end fun xq w3 st3 hR => ?_
  try dsimp only
  clear hR xq
  refine plan_m rfl rfl ?_
  refine wp_storeS st3 2 rfl rfl rfl rfl (by simp [cw_len]) (by kernel_rfl) (cw_one _ _) ?_
  intro w4 st4
  repeat (first | simp only [List.cons_append] at st4 | simp only [List.nil_append] at st4 | simp only [List.set_cons_succ] at st4 | simp only [List.set_cons_zero] at st4)
  clear st3
  try simp only [Act.put]
  refine plan_end ?_
  refine NoPanic.normal ?_
  go_wp2_with fail
  refine wp_region_noPanic ?_
  refine wp_region_lad st4 8 [.o 7, .t 2, .t 3, .t 5, .c 0, .c 1, .c 4, .c 6, .j 7] (.m 8 .nil) (by kernel_rfl) (by kernel_rfl) (fun _ _ _ _ _ h => h) ?_
  clear st4
  refine lad_o rfl rfl rfl z_rn (cw 4 0) rfl ?_
  try simp only [Go.Mv.clL]
  refine lad_arr rfl rfl rfl (fun _ => rfl) (cw 4 (kN xx)) (fun wx hS => St.rangeL hS 2 rfl 0 _ (by rw [List.drop_zero, List.take_of_length_le (Nat.le_refl _)])) Tryz.underlying32 rfl (by kernel_rfl) ?_
  try simp only [Go.Mv.clL]
  refine lad_arr rfl rfl rfl (fun _ => rfl) (cw 4 (kN xx)) (fun wx hS => St.rangeL hS 2 rfl 0 _ (by rw [List.drop_zero, List.take_of_length_le (Nat.le_refl _)])) Tryz.underlying32 rfl (by kernel_rfl) ?_
  try simp only [Go.Mv.clL]
  refine lad_arr rfl rfl rfl (fun _ => rfl) (cw 4 (kN xx)) (fun wx hS => St.rangeL hS 2 rfl 0 _ (by rw [List.drop_zero, List.take_of_length_le (Nat.le_refl _)])) Tryz.underlying32 rfl (by kernel_rfl) ?_
  try simp only [Go.Mv.clL]
  refine lad_call rfl rfl rfl Tryz.call33 (fun w hS hR => RF_any _) (fun _ => rfl) ?_
  try simp only [Go.Mv.clL]
  refine lad_call rfl rfl rfl Tryz.call33 (fun w hS hR => RF_any _) (fun _ => rfl) ?_
  try simp only [Go.Mv.clL]
  refine lad_call rfl rfl rfl Tryz.call76 (fun w hS hR => KAdd xx xx d1 Hd1.out _) (fun _ => rfl) ?_
  try simp only [Go.Mv.clL]
  refine lad_call rfl rfl rfl Tryz.call76 (fun w hS hR => KAdd d1 xx d Hd.out _) (fun _ => rfl) ?_
  try simp only [Go.Mv.clL]
  refine lad_j List.mem_cons_self fun g4 => ?_
  simp only [upd, reduceIte]
  refine lad_end fun xq w5 st5 hR => ?_
  try dsimp only
  clear hR xq
  refine plan_m rfl rfl ?_
  refine wp_storeS st5 3 rfl rfl rfl rfl (by simp [cw_len]) (by kernel_rfl) (cw_one _ _) ?_
  intro w6 st6
  repeat (first | simp only [List.cons_append] at st6 | simp only [List.nil_append] at st6 | simp only [List.set_cons_succ] at st6 | simp only [List.set_cons_zero] at st6)
  clear st5
  try simp only [Act.put]
  refine plan_end ?_
  refine NoPanic.normal ?_
  go_wp2_with fail
  refine wp_region_noPanic ?_
  refine wp_region_lad st6 11 [.o 10, .w 2, .t 3, .w 4, .t 5, .w 7, .t 8, .c 0, .c 1, .c 6, .c 9, .j 10] (.m 11 .nil) (by kernel_rfl) (by kernel_rfl) (fun _ _ _ _ _ h => h) ?_
  clear st6
  refine lad_o rfl rfl rfl z_rn (cw 4 0) rfl ?_
  try simp only [Go.Mv.clL]
  refine lad_w (v := ?_) rfl rfl (fun xq wx => ?_) ?_; rotate_left 1; · (go_simp; with_reducible rfl)
  try simp only [Go.Mv.clL]
  refine lad_arr rfl rfl rfl (fun _ => rfl) (cw 4 (kN y)) (fun wx hS => St.rangeL hS 0 rfl 4 _ (pt_y _ _ _)) Tryz.underlying32 rfl (by kernel_rfl) ?_
  try simp only [Go.Mv.clL]
  refine lad_w (v := ?_) rfl rfl (fun xq wx => ?_) ?_; rotate_left 1; · (go_simp; with_reducible rfl)
  try simp only [Go.Mv.clL]
  refine lad_arr rfl rfl rfl (fun _ => rfl) (cw 4 (kN y)) (fun wx hS => St.rangeL hS 0 rfl 4 _ (pt_y _ _ _)) Tryz.underlying32 rfl (by kernel_rfl) ?_
  try simp only [Go.Mv.clL]
  refine lad_w (v := ?_) rfl rfl (fun xq wx => ?_) ?_; rotate_left 1; · (go_simp; with_reducible rfl)
  try simp only [Go.Mv.clL]
  refine lad_arr rfl rfl rfl (fun _ => rfl) (cw 4 (kN z)) (fun wx hS => St.rangeL hS 0 rfl 8 _ (pt_z _ _ _)) Tryz.underlying32 rfl (by kernel_rfl) ?_
  try simp only [Go.Mv.clL]
  refine lad_call rfl rfl rfl Tryz.call33 (fun w hS hR => RF_any _) (fun _ => rfl) ?_
  try simp only [Go.Mv.clL]
  refine lad_call rfl rfl rfl Tryz.call33 (fun w hS hR => RF_any _) (fun _ => rfl) ?_
  try simp only [Go.Mv.clL]
  refine lad_call rfl rfl rfl Tryz.call76 (fun w hS hR => KAdd y y y2 Hy2.out _) (fun _ => rfl) ?_
  try simp only [Go.Mv.clL]
  refine lad_call rfl rfl rfl Tryz.call35 (fun w hS hR => KMul y2 z ee Hee.out _) (fun _ => rfl) ?_
  try simp only [Go.Mv.clL]
  refine lad_j List.mem_cons_self fun g5 => ?_
  simp only [upd, reduceIte]
  refine lad_end fun xq w7 st7 hR => ?_
  try dsimp only
  clear hR xq
  refine plan_m rfl rfl ?_
  refine wp_storeS st7 4 rfl rfl rfl rfl (by simp [cw_len]) (by kernel_rfl) (cw_one _ _) ?_
  intro w8 st8
  repeat (first | simp only [List.cons_append] at st8 | simp only [List.nil_append] at st8 | simp only [List.set_cons_succ] at st8 | simp only [List.set_cons_zero] at st8)
  clear st7
  try simp only [Act.put]
  refine plan_end ?_
  refine NoPanic.normal ?_
  go_wp2_with fail
  refine wp_region_noPanic ?_
  refine wp_region_lad st8 5 [.o 4, .t 1, .t 2, .c 0, .c 3, .j 4] (.m 5 .nil) (by kernel_rfl) (by kernel_rfl) (fun _ _ _ _ _ h => h) ?_
  clear st8
  refine lad_o rfl rfl rfl z_rn (cw 4 0) rfl ?_
  try simp only [Go.Mv.clL]
  refine lad_arr rfl rfl rfl (fun _ => rfl) (cw 4 (kN ee)) (fun wx hS => St.rangeL hS 4 rfl 0 _ (by rw [List.drop_zero, List.take_of_length_le (Nat.le_refl _)])) Tryz.underlying32 rfl (by kernel_rfl) ?_
  try simp only [Go.Mv.clL]
  refine lad_arr rfl rfl rfl (fun _ => rfl) (cw 4 (kN ee)) (fun wx hS => St.rangeL hS 4 rfl 0 _ (by rw [List.drop_zero, List.take_of_length_le (Nat.le_refl _)])) Tryz.underlying32 rfl (by kernel_rfl) ?_
  try simp only [Go.Mv.clL]
  refine lad_call rfl rfl rfl Tryz.call33 (fun w hS hR => RF_any _) (fun _ => rfl) ?_
  try simp only [Go.Mv.clL]
  refine lad_call rfl rfl rfl Tryz.call35 (fun w hS hR => KMul ee ee e2 He2.out _) (fun _ => rfl) ?_
  try simp only [Go.Mv.clL]
  refine lad_j List.mem_cons_self fun g6 => ?_
  simp only [upd, reduceIte]
  refine lad_end fun xq w9 st9 hR => ?_
  try dsimp only
  clear hR xq
  refine plan_m rfl rfl ?_
  refine wp_storeS st9 5 rfl rfl rfl rfl (by simp [cw_len]) (by kernel_rfl) (cw_one _ _) ?_
  intro w10 st10
  repeat (first | simp only [List.cons_append] at st10 | simp only [List.nil_append] at st10 | simp only [List.set_cons_succ] at st10 | simp only [List.set_cons_zero] at st10)
  clear st9
  try simp only [Act.put]
  refine plan_end ?_
  refine NoPanic.normal ?_
  go_wp2_with fail
  refine wp_region_noPanic ?_
  refine wp_region_lad st10 5 [.o 4, .t 1, .t 2, .c 0, .c 3, .j 4] (.m 5 .nil) (by kernel_rfl) (by kernel_rfl) (fun _ _ _ _ _ h => h) ?_
  clear st10
  refine lad_o rfl rfl rfl z_rn (cw 4 0) rfl ?_
  try simp only [Go.Mv.clL]
  refine lad_arr rfl rfl rfl (fun _ => rfl) (cw 4 (kN e2)) (fun wx hS => St.rangeL hS 5 rfl 0 _ (by rw [List.drop_zero, List.take_of_length_le (Nat.le_refl _)])) Tryz.underlying32 rfl (by kernel_rfl) ?_
  try simp only [Go.Mv.clL]
  refine lad_arr rfl rfl rfl (fun _ => rfl) (cw 4 (kN ee)) (fun wx hS => St.rangeL hS 4 rfl 0 _ (by rw [List.drop_zero, List.take_of_length_le (Nat.le_refl _)])) Tryz.underlying32 rfl (by kernel_rfl) ?_
  try simp only [Go.Mv.clL]
  refine lad_call rfl rfl rfl Tryz.call33 (fun w hS hR => RF_any _) (fun _ => rfl) ?_
  try simp only [Go.Mv.clL]
  refine lad_call rfl rfl rfl Tryz.call35 (fun w hS hR => KMul e2 ee e3 He3.out _) (fun _ => rfl) ?_
  try simp only [Go.Mv.clL]
  refine lad_j List.mem_cons_self fun g7 => ?_
  simp only [upd, reduceIte]
  refine lad_end fun xq w11 st11 hR => ?_
  try dsimp only
  clear hR xq
  refine plan_m rfl rfl ?_
  refine wp_storeS st11 6 rfl rfl rfl rfl (by simp [cw_len]) (by kernel_rfl) (cw_one _ _) ?_
  intro w12 st12
  repeat (first | simp only [List.cons_append] at st12 | simp only [List.nil_append] at st12 | simp only [List.set_cons_succ] at st12 | simp only [List.set_cons_zero] at st12)
  clear st11
  try simp only [Act.put]
  refine plan_end ?_
  refine NoPanic.normal ?_
  go_wp2_with fail
  refine wp_region_noPanic ?_
  refine wp_region_lad st12 20 [.o 19, .t 3, .t 4, .w 6, .t 7, .w 11, .t 12, .w 13, .t 14, .t 16, .c 0, .c 1, .c 2, .c 5, .c 8, .c 9, .c 10, .c 15, .c 17, .c 18, .j 19] (.m 20 .nil) (by kernel_rfl) (by kernel_rfl) (fun _ _ _ _ _ h => h) ?_
  clear st12
  refine lad_o rfl rfl rfl z_rn (cw 4 0) rfl ?_
  try simp only [Go.Mv.clL]
  refine lad_arr rfl rfl rfl (fun _ => rfl) (cw 4 (kN d)) (fun wx hS => St.rangeL hS 3 rfl 0 _ (by rw [List.drop_zero, List.take_of_length_le (Nat.le_refl _)])) Tryz.underlying32 rfl (by kernel_rfl) ?_
  try simp only [Go.Mv.clL]
  refine lad_arr rfl rfl rfl (fun _ => rfl) (cw 4 (kN d)) (fun wx hS => St.rangeL hS 3 rfl 0 _ (by rw [List.drop_zero, List.take_of_length_le (Nat.le_refl _)])) Tryz.underlying32 rfl (by kernel_rfl) ?_
  try simp only [Go.Mv.clL]
  refine lad_w (v := ?_) rfl rfl (fun xq wx => ?_) ?_; rotate_left 1; · (go_simp; with_reducible rfl)
  try simp only [Go.Mv.clL]
  refine lad_arr rfl rfl rfl (fun _ => rfl) (cw 4 (kN z)) (fun wx hS => St.rangeL hS 0 rfl 8 _ (pt_z _ _ _)) Tryz.underlying32 rfl (by kernel_rfl) ?_
  try simp only [Go.Mv.clL]
  refine lad_w (v := ?_) rfl rfl (fun xq wx => ?_) ?_; rotate_left 1; · (go_simp; with_reducible rfl)
  try simp only [Go.Mv.clL]
  refine lad_arr rfl rfl rfl (fun _ => rfl) (cw 4 (kN x)) (fun wx hS => St.rangeL hS 0 rfl 0 _ (pt_x _ _ _)) Tryz.underlying32 rfl (by kernel_rfl) ?_
  try simp only [Go.Mv.clL]
  refine lad_w (v := ?_) rfl rfl (fun xq wx => ?_) ?_; rotate_left 1; · (go_simp; with_reducible rfl)
  try simp only [Go.Mv.clL]
  refine lad_arr rfl rfl rfl (fun _ => rfl) (cw 4 (kN x)) (fun wx hS => St.rangeL hS 0 rfl 0 _ (pt_x _ _ _)) Tryz.underlying32 rfl (by kernel_rfl) ?_
  try simp only [Go.Mv.clL]
  refine lad_arr rfl rfl rfl (fun _ => rfl) (cw 4 (kN e2)) (fun wx hS => St.rangeL hS 5 rfl 0 _ (by rw [List.drop_zero, List.take_of_length_le (Nat.le_refl _)])) Tryz.underlying32 rfl (by kernel_rfl) ?_
  try simp only [Go.Mv.clL]
  refine lad_call rfl rfl rfl Tryz.call33 (fun w hS hR => RF_any _) (fun _ => rfl) ?_
  try simp only [Go.Mv.clL]
  refine lad_call rfl rfl rfl Tryz.call33 (fun w hS hR => RF_any _) (fun _ => rfl) ?_
  try simp only [Go.Mv.clL]
  refine lad_call rfl rfl rfl Tryz.call33 (fun w hS hR => RF_any _) (fun _ => rfl) ?_
  try simp only [Go.Mv.clL]
  refine lad_call rfl rfl rfl Tryz.call35 (fun w hS hR => KMul d d t1 Ht1.out _) (fun _ => rfl) ?_
  try simp only [Go.Mv.clL]
  refine lad_call rfl rfl rfl Tryz.call35 (fun w hS hR => KMul t1 z t2 Ht2.out _) (fun _ => rfl) ?_
  try simp only [Go.Mv.clL]
  refine lad_call rfl rfl rfl Tryz.call33 (fun w hS hR => RF_any _) (fun _ => rfl) ?_
  try simp only [Go.Mv.clL]
  refine lad_call rfl rfl rfl Tryz.call33 (fun w hS hR => RF_any _) (fun _ => rfl) ?_
  try simp only [Go.Mv.clL]
  refine lad_call rfl rfl rfl Tryz.call76 (fun w hS hR => KAdd x x x2 Hx2.out _) (fun _ => rfl) ?_
  try simp only [Go.Mv.clL]
  refine lad_call rfl rfl rfl Tryz.call35 (fun w hS hR => KMul x2 e2 t3 Ht3.out _) (fun _ => rfl) ?_
  try simp only [Go.Mv.clL]
  refine lad_call rfl rfl rfl Tryz.call87 (fun w hS hR => KSub t2 t3 t Ht.out _) (fun _ => rfl) ?_
  try simp only [Go.Mv.clL]
  refine lad_j List.mem_cons_self fun g8 => ?_
  simp only [upd, reduceIte]
  refine lad_end fun xq w13 st13 hR => ?_
  try dsimp only
  clear hR xq
  refine plan_m rfl rfl ?_
  refine wp_storeS st13 7 rfl rfl rfl rfl (by simp [cw_len]) (by kernel_rfl) (cw_one _ _) ?_
  intro w14 st14
  repeat (first | simp only [List.cons_append] at st14 | simp only [List.nil_append] at st14 | simp only [List.set_cons_succ] at st14 | simp only [List.set_cons_zero] at st14)
  clear st13
  try simp only [Act.put]
  refine plan_end ?_
  refine NoPanic.normal ?_
  go_wp2_with fail
  refine wp_region_noPanic ?_
  refine wp_region_lad st14 5 [.o 4, .t 1, .t 2, .c 0, .c 3, .j 4] (.m 5 .nil) (by kernel_rfl) (by kernel_rfl) (fun _ _ _ _ _ h => h) ?_
  clear st14
  refine lad_o rfl rfl rfl z_rn (cw 4 0) rfl ?_
  try simp only [Go.Mv.clL]
  refine lad_arr rfl rfl rfl (fun _ => rfl) (cw 4 (kN ee)) (fun wx hS => St.rangeL hS 4 rfl 0 _ (by rw [List.drop_zero, List.take_of_length_le (Nat.le_refl _)])) Tryz.underlying32 rfl (by kernel_rfl) ?_
  try simp only [Go.Mv.clL]
  refine lad_arr rfl rfl rfl (fun _ => rfl) (cw 4 (kN t)) (fun wx hS => St.rangeL hS 7 rfl 0 _ (by rw [List.drop_zero, List.take_of_length_le (Nat.le_refl _)])) Tryz.underlying32 rfl (by kernel_rfl) ?_
  try simp only [Go.Mv.clL]
  refine lad_call rfl rfl rfl Tryz.call33 (fun w hS hR => RF_any _) (fun _ => rfl) ?_
  try simp only [Go.Mv.clL]
  refine lad_call rfl rfl rfl Tryz.call35 (fun w hS hR => KMul ee t X HX.out _) (fun _ => rfl) ?_
  try simp only [Go.Mv.clL]
  refine lad_j List.mem_cons_self fun g9 => ?_
  simp only [upd, reduceIte]
  refine lad_end fun xq w15 st15 hR => ?_
  try dsimp only
  clear hR xq
  refine plan_m rfl rfl ?_
  refine wp_storeS st15 8 rfl rfl rfl rfl (by simp [cw_len]) (by kernel_rfl) (cw_one _ _) ?_
  intro w16 st16
  repeat (first | simp only [List.cons_append] at st16 | simp only [List.nil_append] at st16 | simp only [List.set_cons_succ] at st16 | simp only [List.set_cons_zero] at st16)
  clear st15
  try simp only [Act.put]
  refine plan_end ?_
  refine NoPanic.normal ?_
  go_wp2_with fail
  refine wp_region_noPanic ?_
  refine wp_region_lad st16 19 [.o 18, .t 2, .w 5, .t 6, .t 7, .t 9, .w 13, .t 14, .t 15, .c 0, .c 1, .c 3, .c 4, .c 8, .c 10, .c 11, .c 12, .c 16, .c 17, .j 18] (.m 19 .nil) (by kernel_rfl) (by kernel_rfl) (fun _ _ _ _ _ h => h) ?_
  clear st16
  refine lad_o rfl rfl rfl z_rn (cw 4 0) rfl ?_
  try simp only [Go.Mv.clL]
  refine lad_arr rfl rfl rfl (fun _ => rfl) (cw 4 (kN d)) (fun wx hS => St.rangeL hS 3 rfl 0 _ (by rw [List.drop_zero, List.take_of_length_le (Nat.le_refl _)])) Tryz.underlying32 rfl (by kernel_rfl) ?_
  try simp only [Go.Mv.clL]
  refine lad_w (v := ?_) rfl rfl (fun xq wx => ?_) ?_; rotate_left 1; · (go_simp; with_reducible rfl)
  try simp only [Go.Mv.clL]
  refine lad_arr rfl rfl rfl (fun _ => rfl) (cw 4 (kN x)) (fun wx hS => St.rangeL hS 0 rfl 0 _ (pt_x _ _ _)) Tryz.underlying32 rfl (by kernel_rfl) ?_
  try simp only [Go.Mv.clL]
  refine lad_arr rfl rfl rfl (fun _ => rfl) (cw 4 (kN e2)) (fun wx hS => St.rangeL hS 5 rfl 0 _ (by rw [List.drop_zero, List.take_of_length_le (Nat.le_refl _)])) Tryz.underlying32 rfl (by kernel_rfl) ?_
  try simp only [Go.Mv.clL]
  refine lad_arr rfl rfl rfl (fun _ => rfl) (cw 4 (kN t)) (fun wx hS => St.rangeL hS 7 rfl 0 _ (by rw [List.drop_zero, List.take_of_length_le (Nat.le_refl _)])) Tryz.underlying32 rfl (by kernel_rfl) ?_
  try simp only [Go.Mv.clL]
  refine lad_w (v := ?_) rfl rfl (fun xq wx => ?_) ?_; rotate_left 1; · (go_simp; with_reducible rfl)
  try simp only [Go.Mv.clL]
  refine lad_arr rfl rfl rfl (fun _ => rfl) (cw 4 (kN y)) (fun wx hS => St.rangeL hS 0 rfl 4 _ (pt_y _ _ _)) Tryz.underlying32 rfl (by kernel_rfl) ?_
  try simp only [Go.Mv.clL]
  refine lad_arr rfl rfl rfl (fun _ => rfl) (cw 4 (kN e3)) (fun wx hS => St.rangeL hS 6 rfl 0 _ (by rw [List.drop_zero, List.take_of_length_le (Nat.le_refl _)])) Tryz.underlying32 rfl (by kernel_rfl) ?_
  try simp only [Go.Mv.clL]
  refine lad_call rfl rfl rfl Tryz.call33 (fun w hS hR => RF_any _) (fun _ => rfl) ?_
  try simp only [Go.Mv.clL]
  refine lad_call rfl rfl rfl Tryz.call33 (fun w hS hR => RF_any _) (fun _ => rfl) ?_
  try simp only [Go.Mv.clL]
  refine lad_call rfl rfl rfl Tryz.call33 (fun w hS hR => RF_any _) (fun _ => rfl) ?_
  try simp only [Go.Mv.clL]
  refine lad_call rfl rfl rfl Tryz.call33 (fun w hS hR => RF_any _) (fun _ => rfl) ?_
  try simp only [Go.Mv.clL]
  refine lad_call rfl rfl rfl Tryz.call35 (fun w hS hR => KMul x e2 s1 Hs1.out _) (fun _ => rfl) ?_
  try simp only [Go.Mv.clL]
  refine lad_call rfl rfl rfl Tryz.call87 (fun w hS hR => KSub s1 t s2 Hs2.out _) (fun _ => rfl) ?_
  try simp only [Go.Mv.clL]
  refine lad_call rfl rfl rfl Tryz.call35 (fun w hS hR => KMul d s2 s3 Hs3.out _) (fun _ => rfl) ?_
  try simp only [Go.Mv.clL]
  refine lad_call rfl rfl rfl Tryz.call33 (fun w hS hR => RF_any _) (fun _ => rfl) ?_
  try simp only [Go.Mv.clL]
  refine lad_call rfl rfl rfl Tryz.call35 (fun w hS hR => KMul y e3 s4 Hs4.out _) (fun _ => rfl) ?_
  try simp only [Go.Mv.clL]
  refine lad_call rfl rfl rfl Tryz.call87 (fun w hS hR => KSub s3 s4 Y HY.out _) (fun _ => rfl) ?_
  try simp only [Go.Mv.clL]
  refine lad_j List.mem_cons_self fun g10 => ?_
  simp only [upd, reduceIte]
  refine lad_end fun xq w17 st17 hR => ?_
  try dsimp only
  clear hR xq
  refine plan_m rfl rfl ?_
  refine wp_storeS st17 9 rfl rfl rfl rfl (by simp [cw_len]) (by kernel_rfl) (cw_one _ _) ?_
  intro w18 st18
  repeat (first | simp only [List.cons_append] at st18 | simp only [List.nil_append] at st18 | simp only [List.set_cons_succ] at st18 | simp only [List.set_cons_zero] at st18)
  clear st17
  try simp only [Act.put]
  refine plan_end ?_
  refine NoPanic.normal ?_
  go_wp2_with fail
  refine wp_region_noPanic ?_
  refine wp_region_lad st18 8 [.t 0, .t 1, .t 3, .w 4, .t 5, .c 2, .c 6, .w 7] (.m 8 .nil) (by kernel_rfl) (by kernel_rfl) (fun _ _ _ _ _ h => h) ?_
  clear st18
  refine lad_arr rfl rfl rfl (fun _ => rfl) (cw 4 (kN X)) (fun wx hS => St.rangeL hS 8 rfl 0 _ (by rw [List.drop_zero, List.take_of_length_le (Nat.le_refl _)])) Tryz.underlying32 rfl (by kernel_rfl) ?_
  try simp only [Go.Mv.clL]
  refine lad_arr rfl rfl rfl (fun _ => rfl) (cw 4 (kN Y)) (fun wx hS => St.rangeL hS 9 rfl 0 _ (by rw [List.drop_zero, List.take_of_length_le (Nat.le_refl _)])) Tryz.underlying32 rfl (by kernel_rfl) ?_
  try simp only [Go.Mv.clL]
  refine lad_arr rfl rfl rfl (fun _ => rfl) (cw 4 (kN e3)) (fun wx hS => St.rangeL hS 6 rfl 0 _ (by rw [List.drop_zero, List.take_of_length_le (Nat.le_refl _)])) Tryz.underlying32 rfl (by kernel_rfl) ?_
  try simp only [Go.Mv.clL]
  refine lad_w (v := ?_) rfl rfl (fun xq wx => ?_) ?_; rotate_left 1; · (go_simp; with_reducible rfl)
  try simp only [Go.Mv.clL]
  refine lad_arr rfl rfl rfl (fun _ => rfl) (cw 4 (kN z)) (fun wx hS => St.rangeL hS 0 rfl 8 _ (pt_z _ _ _)) Tryz.underlying32 rfl (by kernel_rfl) ?_
  try simp only [Go.Mv.clL]
  refine lad_call rfl rfl rfl Tryz.call33 (fun w hS hR => RF_any _) (fun _ => rfl) ?_
  try simp only [Go.Mv.clL]
  refine lad_call rfl rfl rfl Tryz.call35 (fun w hS hR => KMul e3 z Z HZ.out _) (fun _ => rfl) ?_
  try simp only [Go.Mv.clL]
  refine lad_w rfl rfl (fun _ => exec_build rfl _ (built_rp _ _ _)) ?_
  try simp only [Go.Mv.clL]
  refine lad_end fun xq w19 st19 hR => ?_
  try dsimp only
  clear hR xq
  refine plan_m rfl rfl ?_
  refine wp_storeS st19 1 rfl rfl rfl rfl (by simp [cw_len]) (by kernel_rfl) (pt_one _ _ _) ?_
  intro w20 st20
  try simp only [List.set_cons_zero, List.set_cons_succ] at st20
  clear st19
  try simp only [Act.put]
  refine plan_end ?_
  refine NoPanic.normal ?_
  have hr := st20.at 1 rfl
  have hfr := st20.fr
  clear st20
  go_wp2_with fail
  exact bodyPost_ret (results_st rfl rfl hr Tryz.underlying34 rfl (by kernel_rfl)) rfl ⟨rfl, hfr⟩

set_option maxHeartbeats 16000000 in
set_option maxRecDepth 1000000 in
theorem RPlus_none1 (x1 y1 z1 x2 y2 z2 : K) (hb1 : decide (z1 = 0) = true) (w : World) : Calls Tryz.prog 40 #[rpV x1 y1 z1, rpV x2 y2 z2] w fun e w' => e = .returned (rpV x2 y2 z2) ∧ Fr Nob w w' := by
  have HB1 := Lib.hid hb1
  clear hb1
  unfold rpV rpL
  have st0 := St.start Nob w
  go_enter Tryz.func40, Tryz.ntmps40
  go_wp2_with (with_reducible refine wl_stop (o := ⟨some 2, _, _, _, _, _⟩) ?_)
  refine wl_boxS st0 rfl rfl rfl (cw 4 (kN x1) ++ (cw 4 (kN y1) ++ cw 4 (kN z1))) rfl ?_
  intro g2 w1 st1
  clear st0
  go_wp2_with (with_reducible refine wl_stop (o := ⟨some 3, _, _, _, _, _⟩) ?_)
  refine wl_boxS st1 rfl rfl rfl (cw 4 (kN x2) ++ (cw 4 (kN y2) ++ cw 4 (kN z2))) rfl ?_
  intro g3 w2 st2
  clear st1
  go_wp2_with (with_reducible refine wl_stop (o := ⟨some 4, _, _, _, _, _⟩) ?_)
  refine wl_allocS st2 rfl rfl (z := .agg #[.int .u64 0, .int .u64 0, .int .u64 0, .int .u64 0, .int .u64 0, .int .u64 0, .int .u64 0, .int .u64 0, .int .u64 0, .int .u64 0, .int .u64 0, .int .u64 0]) (by kernel_rfl) (cw 12 0) (by rw [cw_zero]; rfl) ?_
  intro g4 w3 st3
  clear st2
  go_wp2_with (with_reducible refine wl_stop (o := ⟨some 16, _, _, _, _, _⟩) ?_)
  refine wl_loadSt st3 0 rfl rfl rfl Tryz.underlying34 rfl rfl (by kernel_rfl) ?_
  go_wp2_with fail
  refine (RIs_any x1 y1 z1 true HB1.out _).mono ?_
  rintro e' w4 ⟨rfl, hf4⟩
  have st4 := st3.keep hf4
  clear st3 hf4
  go_wp2_with (with_reducible refine wl_stop (o := ⟨some 19, _, _, _, _, _⟩) ?_)
  refine wl_loadSt st4 1 rfl rfl rfl Tryz.underlying34 rfl rfl (by kernel_rfl) ?_
  go_wp2_with (with_reducible refine wl_stop (o := ⟨none, _, _, _, _, _⟩) ?_)
  refine wl_storeS st4 2 rfl rfl rfl rfl rfl (by simp [cw_len]) (by kernel_rfl) (pt_one _ _ _) ?_
  intro w5 st5
  clear st4
  have hr := st5.at 2 rfl
  have hfr := st5.fr
  clear st5
  go_wp2_with fail
  exact bodyPost_ret (results_st rfl rfl hr Tryz.underlying34 rfl (by kernel_rfl)) rfl ⟨rfl, hfr⟩

set_option maxHeartbeats 16000000 in
set_option maxRecDepth 1000000 in
theorem RPlus_none2 (x1 y1 z1 x2 y2 z2 : K) (hb1 : decide (z1 = 0) = false) (hb2 : decide (z2 = 0) = true) (w : World) : Calls Tryz.prog 40 #[rpV x1 y1 z1, rpV x2 y2 z2] w fun e w' => e = .returned (rpV x1 y1 z1) ∧ Fr Nob w w' := by
  have HB1 := Lib.hid hb1
  have HB2 := Lib.hid hb2
  clear hb1 hb2
  unfold rpV rpL
  have st0 := St.start Nob w
  go_enter Tryz.func40, Tryz.ntmps40
  go_wp2_with (with_reducible refine wl_stop (o := ⟨some 2, _, _, _, _, _⟩) ?_)
  refine wl_boxS st0 rfl rfl rfl (cw 4 (kN x1) ++ (cw 4 (kN y1) ++ cw 4 (kN z1))) rfl ?_
  intro g2 w1 st1
  clear st0
  go_wp2_with (with_reducible refine wl_stop (o := ⟨some 3, _, _, _, _, _⟩) ?_)
  refine wl_boxS st1 rfl rfl rfl (cw 4 (kN x2) ++ (cw 4 (kN y2) ++ cw 4 (kN z2))) rfl ?_
  intro g3 w2 st2
  clear st1
  go_wp2_with (with_reducible refine wl_stop (o := ⟨some 4, _, _, _, _, _⟩) ?_)
  refine wl_allocS st2 rfl rfl (z := .agg #[.int .u64 0, .int .u64 0, .int .u64 0, .int .u64 0, .int .u64 0, .int .u64 0, .int .u64 0, .int .u64 0, .int .u64 0, .int .u64 0, .int .u64 0, .int .u64 0]) (by kernel_rfl) (cw 12 0) (by rw [cw_zero]; rfl) ?_
  intro g4 w3 st3
  clear st2
  go_wp2_with (with_reducible refine wl_stop (o := ⟨some 16, _, _, _, _, _⟩) ?_)
  refine wl_loadSt st3 0 rfl rfl rfl Tryz.underlying34 rfl rfl (by kernel_rfl) ?_
  go_wp2_with fail
  refine (RIs_any x1 y1 z1 false HB1.out _).mono ?_
  rintro e' w4 ⟨rfl, hf4⟩
  have st4 := st3.keep hf4
  clear st3 hf4
  go_wp2_with (with_reducible refine wl_stop (o := ⟨some 20, _, _, _, _, _⟩) ?_)
  refine wl_loadSt st4 1 rfl rfl rfl Tryz.underlying34 rfl rfl (by kernel_rfl) ?_
  go_wp2_with fail
  refine (RIs_any x2 y2 z2 true HB2.out _).mono ?_
  rintro e' w5 ⟨rfl, hf5⟩
  have st5 := st4.keep hf5
  clear st4 hf5
  go_wp2_with (with_reducible refine wl_stop (o := ⟨some 23, _, _, _, _, _⟩) ?_)
  refine wl_loadSt st5 0 rfl rfl rfl Tryz.underlying34 rfl rfl (by kernel_rfl) ?_
  go_wp2_with (with_reducible refine wl_stop (o := ⟨none, _, _, _, _, _⟩) ?_)
  refine wl_storeS st5 2 rfl rfl rfl rfl rfl (by simp [cw_len]) (by kernel_rfl) (pt_one _ _ _) ?_
  intro w6 st6
  clear st5
  have hr := st6.at 2 rfl
  have hfr := st6.fr
  clear st6
  go_wp2_with fail
  exact bodyPost_ret (results_st rfl rfl hr Tryz.underlying34 rfl (by kernel_rfl)) rfl ⟨rfl, hfr⟩

theorem wl_met {P : Program} {ops : Array Oper} {Q : Exit → Act → World → Prop} {a : Act} {w : World} {rest : List Oper} {o : Oper} (hw : Region.wanted o (yielded ops a.tmps) = true) (h : wpList P ops Q ({o with guard := none} :: rest) a w) : wpList P ops Q (o :: rest) a w := by
  unfold wpList at h ⊢
  rw [if_pos hw]
  rw [if_pos (by simp [Region.wanted])] at h
  exact h
theorem exec_neqK (x y : K) {o : Oper} {a : Act} {p q : Operand} {T : TypeId} (ho : o.op = .binOp .neq 32 p q T) (hp : a.eval p = i4 (kN x)) (hq : a.eval q = i4 (kN y)) {b : Bool} (hb : decide (x = y) = b) (w : World) :
    (execOp a.eval o).run Tryz.prog w = .ok (.value (.bool !b)) w :=
  exec_binop ho hp hq w (run_eqGuard_agg w .neq 32 p q _ _ Tryz.eqGuardType32) (by
    show (do pure (Value.bool (!(← Op.equal 32 (.agg (cw 4 (kN x)).toArray) (.agg (cw 4 (kN y)).toArray))))).run Tryz.prog w = _
    simp only [Sem.run_bind, run_eqK x y hb w, Result.andThen_ok]
    rfl)
theorem RNone_u (w : World) : Calls Tryz.prog 54 #[] w fun e w' => e = .returned (.agg (cw 4 (kN 0) ++ (cw 4 (kN 1) ++ cw 4 (kN 0))).toArray) ∧ Fr Nob w w' := RNone_any w

set_option maxHeartbeats 16000000 in
set_option maxRecDepth 1000000 in
theorem RPlus_opp (x1 y1 z1 x2 y2 z2 : K) (hb1 : decide (z1 = 0) = false) (hb2 : decide (z2 = 0) = false) (u v u2 v2 : K) (eu : y2 * z1 = u) (ev : x2 * z1 = v) (eu2 : y1 * z2 = u2) (ev2 : x1 * z2 = v2) (hv : decide (v = v2) = true) (hu : decide (u = u2) = false) (w : World) : Calls Tryz.prog 40 #[rpV x1 y1 z1, rpV x2 y2 z2] w fun e w' => e = .returned (rpV 0 1 0) ∧ Fr Nob w w' := by
  have HB1 := Lib.hid hb1
  have HB2 := Lib.hid hb2
  clear hb1 hb2
  have Hu := Lib.hid eu
  have Hv := Lib.hid ev
  have Hu2 := Lib.hid eu2
  have Hv2 := Lib.hid ev2
  clear eu ev eu2 ev2
  have HV := Lib.hid hv
  clear hv
  have HU := Lib.hid hu
  clear hu
  unfold rpV rpL
  have st0 := St.start Nob w
  go_enter Tryz.func40, Tryz.ntmps40
  go_wp2_with (with_reducible refine wl_stop (o := ⟨some 2, _, _, _, _, _⟩) ?_)
  refine wl_boxS st0 rfl rfl rfl (cw 4 (kN x1) ++ (cw 4 (kN y1) ++ cw 4 (kN z1))) rfl ?_
  intro g2 w1 st1
  clear st0
  go_wp2_with (with_reducible refine wl_stop (o := ⟨some 3, _, _, _, _, _⟩) ?_)
  refine wl_boxS st1 rfl rfl rfl (cw 4 (kN x2) ++ (cw 4 (kN y2) ++ cw 4 (kN z2))) rfl ?_
  intro g3 w2 st2
  clear st1
  go_wp2_with (with_reducible refine wl_stop (o := ⟨some 4, _, _, _, _, _⟩) ?_)
  refine wl_allocS st2 rfl rfl (z := .agg #[.int .u64 0, .int .u64 0, .int .u64 0, .int .u64 0, .int .u64 0, .int .u64 0, .int .u64 0, .int .u64 0, .int .u64 0, .int .u64 0, .int .u64 0, .int .u64 0]) (by kernel_rfl) (cw 12 0) (by rw [cw_zero]; rfl) ?_
  intro g4 w3 st3
  clear st2
  go_wp2_with (with_reducible refine wl_stop (o := ⟨some 16, _, _, _, _, _⟩) ?_)
  refine wl_loadSt st3 0 rfl rfl rfl Tryz.underlying34 rfl rfl (by kernel_rfl) ?_
  go_wp2_with fail
  refine (RIs_any x1 y1 z1 false HB1.out _).mono ?_
  rintro e' w4 ⟨rfl, hf4⟩
  have st4 := st3.keep hf4
  clear st3 hf4
  go_wp2_with (with_reducible refine wl_stop (o := ⟨some 20, _, _, _, _, _⟩) ?_)
  refine wl_loadSt st4 1 rfl rfl rfl Tryz.underlying34 rfl rfl (by kernel_rfl) ?_
  go_wp2_with fail
  refine (RIs_any x2 y2 z2 false HB2.out _).mono ?_
  rintro e' w5 ⟨rfl, hf5⟩
  have st5 := st4.keep hf5
  clear st4 hf5
  go_wp2_with fail
  refine wp_region_noPanic ?_
  refine wp_region_lad st5 7 [.o 6, .w 1, .t 2, .w 3, .t 4, .c 0, .c 5, .j 6] (.m 7 .nil) (by kernel_rfl) (by kernel_rfl) (fun _ _ _ _ _ h => h) ?_
  clear st5
  refine lad_o rfl rfl rfl z_rn (cw 4 0) rfl ?_
  try simp only [Go.Mv.clL]
  refine lad_w (v := ?_) rfl rfl (fun xq wx => ?_) ?_; rotate_left 1; · (go_simp; with_reducible rfl)
  try simp only [Go.Mv.clL]
  refine lad_arr rfl rfl rfl (fun _ => rfl) (cw 4 (kN y2)) (fun wx hS => St.rangeL hS 1 rfl 4 _ (pt_y _ _ _)) Tryz.underlying32 rfl (by kernel_rfl) ?_
  try simp only [Go.Mv.clL]
  refine lad_w (v := ?_) rfl rfl (fun xq wx => ?_) ?_; rotate_left 1; · (go_simp; with_reducible rfl)
  try simp only [Go.Mv.clL]
  refine lad_arr rfl rfl rfl (fun _ => rfl) (cw 4 (kN z1)) (fun wx hS => St.rangeL hS 0 rfl 8 _ (pt_z _ _ _)) Tryz.underlying32 rfl (by kernel_rfl) ?_
  try simp only [Go.Mv.clL]
  refine lad_call rfl rfl rfl Tryz.call33 (fun w hS hR => RF_any _) (fun _ => rfl) ?_
  try simp only [Go.Mv.clL]
  refine lad_call rfl rfl rfl Tryz.call35 (fun w hS hR => KMul y2 z1 u Hu.out _) (fun _ => rfl) ?_
  try simp only [Go.Mv.clL]
  refine lad_j List.mem_cons_self fun g6 => ?_
  simp only [upd, reduceIte]
  refine lad_end fun xq w6 st6 hR => ?_
  try dsimp only
  clear hR xq
  refine plan_m rfl rfl ?_
  refine wp_storeS st6 3 rfl rfl rfl rfl (by simp [cw_len]) (by kernel_rfl) (cw_one _ _) ?_
  intro w7 st7
  repeat (first | simp only [List.cons_append] at st7 | simp only [List.nil_append] at st7 | simp only [List.set_cons_succ] at st7 | simp only [List.set_cons_zero] at st7)
  clear st6
  try simp only [Act.put]
  refine plan_end ?_
  refine NoPanic.normal ?_
  go_wp2_with fail
  refine wp_region_noPanic ?_
  refine wp_region_lad st7 7 [.o 6, .w 1, .t 2, .w 3, .t 4, .c 0, .c 5, .j 6] (.m 7 .nil) (by kernel_rfl) (by kernel_rfl) (fun _ _ _ _ _ h => h) ?_
  clear st7
  refine lad_o rfl rfl rfl z_rn (cw 4 0) rfl ?_
  try simp only [Go.Mv.clL]
  refine lad_w (v := ?_) rfl rfl (fun xq wx => ?_) ?_; rotate_left 1; · (go_simp; with_reducible rfl)
  try simp only [Go.Mv.clL]
  refine lad_arr rfl rfl rfl (fun _ => rfl) (cw 4 (kN x2)) (fun wx hS => St.rangeL hS 1 rfl 0 _ (pt_x _ _ _)) Tryz.underlying32 rfl (by kernel_rfl) ?_
  try simp only [Go.Mv.clL]
  refine lad_w (v := ?_) rfl rfl (fun xq wx => ?_) ?_; rotate_left 1; · (go_simp; with_reducible rfl)
  try simp only [Go.Mv.clL]
  refine lad_arr rfl rfl rfl (fun _ => rfl) (cw 4 (kN z1)) (fun wx hS => St.rangeL hS 0 rfl 8 _ (pt_z _ _ _)) Tryz.underlying32 rfl (by kernel_rfl) ?_
  try simp only [Go.Mv.clL]
  refine lad_call rfl rfl rfl Tryz.call33 (fun w hS hR => RF_any _) (fun _ => rfl) ?_
  try simp only [Go.Mv.clL]
  refine lad_call rfl rfl rfl Tryz.call35 (fun w hS hR => KMul x2 z1 v Hv.out _) (fun _ => rfl) ?_
  try simp only [Go.Mv.clL]
  refine lad_j List.mem_cons_self fun g7 => ?_
  simp only [upd, reduceIte]
  refine lad_end fun xq w8 st8 hR => ?_
  try dsimp only
  clear hR xq
  refine plan_m rfl rfl ?_
  refine wp_storeS st8 4 rfl rfl rfl rfl (by simp [cw_len]) (by kernel_rfl) (cw_one _ _) ?_
  intro w9 st9
  repeat (first | simp only [List.cons_append] at st9 | simp only [List.nil_append] at st9 | simp only [List.set_cons_succ] at st9 | simp only [List.set_cons_zero] at st9)
  clear st8
  try simp only [Act.put]
  refine plan_end ?_
  refine NoPanic.normal ?_
  go_wp2_with fail
  refine wp_region_noPanic ?_
  refine wp_region_lad st9 7 [.o 6, .w 1, .t 2, .w 3, .t 4, .c 0, .c 5, .j 6] (.m 7 .nil) (by kernel_rfl) (by kernel_rfl) (fun _ _ _ _ _ h => h) ?_
  clear st9
  refine lad_o rfl rfl rfl z_rn (cw 4 0) rfl ?_
  try simp only [Go.Mv.clL]
  refine lad_w (v := ?_) rfl rfl (fun xq wx => ?_) ?_; rotate_left 1; · (go_simp; with_reducible rfl)
  try simp only [Go.Mv.clL]
  refine lad_arr rfl rfl rfl (fun _ => rfl) (cw 4 (kN y1)) (fun wx hS => St.rangeL hS 0 rfl 4 _ (pt_y _ _ _)) Tryz.underlying32 rfl (by kernel_rfl) ?_
  try simp only [Go.Mv.clL]
  refine lad_w (v := ?_) rfl rfl (fun xq wx => ?_) ?_; rotate_left 1; · (go_simp; with_reducible rfl)
  try simp only [Go.Mv.clL]
  refine lad_arr rfl rfl rfl (fun _ => rfl) (cw 4 (kN z2)) (fun wx hS => St.rangeL hS 1 rfl 8 _ (pt_z _ _ _)) Tryz.underlying32 rfl (by kernel_rfl) ?_
  try simp only [Go.Mv.clL]
  refine lad_call rfl rfl rfl Tryz.call33 (fun w hS hR => RF_any _) (fun _ => rfl) ?_
  try simp only [Go.Mv.clL]
  refine lad_call rfl rfl rfl Tryz.call35 (fun w hS hR => KMul y1 z2 u2 Hu2.out _) (fun _ => rfl) ?_
  try simp only [Go.Mv.clL]
  refine lad_j List.mem_cons_self fun g8 => ?_
  simp only [upd, reduceIte]
  refine lad_end fun xq w10 st10 hR => ?_
  try dsimp only
  clear hR xq
  refine plan_m rfl rfl ?_
  refine wp_storeS st10 5 rfl rfl rfl rfl (by simp [cw_len]) (by kernel_rfl) (cw_one _ _) ?_
  intro w11 st11
  repeat (first | simp only [List.cons_append] at st11 | simp only [List.nil_append] at st11 | simp only [List.set_cons_succ] at st11 | simp only [List.set_cons_zero] at st11)
  clear st10
  try simp only [Act.put]
  refine plan_end ?_
  refine NoPanic.normal ?_
  go_wp2_with fail
  refine wp_region_noPanic ?_
  refine wp_region_lad st11 7 [.o 6, .w 1, .t 2, .w 3, .t 4, .c 0, .c 5, .j 6] (.m 7 .nil) (by kernel_rfl) (by kernel_rfl) (fun _ _ _ _ _ h => h) ?_
  clear st11
  refine lad_o rfl rfl rfl z_rn (cw 4 0) rfl ?_
  try simp only [Go.Mv.clL]
  refine lad_w (v := ?_) rfl rfl (fun xq wx => ?_) ?_; rotate_left 1; · (go_simp; with_reducible rfl)
  try simp only [Go.Mv.clL]
  refine lad_arr rfl rfl rfl (fun _ => rfl) (cw 4 (kN x1)) (fun wx hS => St.rangeL hS 0 rfl 0 _ (pt_x _ _ _)) Tryz.underlying32 rfl (by kernel_rfl) ?_
  try simp only [Go.Mv.clL]
  refine lad_w (v := ?_) rfl rfl (fun xq wx => ?_) ?_; rotate_left 1; · (go_simp; with_reducible rfl)
  try simp only [Go.Mv.clL]
  refine lad_arr rfl rfl rfl (fun _ => rfl) (cw 4 (kN z2)) (fun wx hS => St.rangeL hS 1 rfl 8 _ (pt_z _ _ _)) Tryz.underlying32 rfl (by kernel_rfl) ?_
  try simp only [Go.Mv.clL]
  refine lad_call rfl rfl rfl Tryz.call33 (fun w hS hR => RF_any _) (fun _ => rfl) ?_
  try simp only [Go.Mv.clL]
  refine lad_call rfl rfl rfl Tryz.call35 (fun w hS hR => KMul x1 z2 v2 Hv2.out _) (fun _ => rfl) ?_
  try simp only [Go.Mv.clL]
  refine lad_j List.mem_cons_self fun g9 => ?_
  simp only [upd, reduceIte]
  refine lad_end fun xq w12 st12 hR => ?_
  try dsimp only
  clear hR xq
  refine plan_m rfl rfl ?_
  refine wp_storeS st12 6 rfl rfl rfl rfl (by simp [cw_len]) (by kernel_rfl) (cw_one _ _) ?_
  intro w13 st13
  repeat (first | simp only [List.cons_append] at st13 | simp only [List.nil_append] at st13 | simp only [List.set_cons_succ] at st13 | simp only [List.set_cons_zero] at st13)
  clear st12
  try simp only [Act.put]
  refine plan_end ?_
  refine NoPanic.normal ?_
  go_wp2_with (with_reducible refine wl_stop (o := ⟨some 48, _, _, _, _, _⟩) ?_)
  refine wl_loadS st13 4 rfl rfl rfl Tryz.underlying32 rfl (by kernel_rfl) ?_
  go_wp2_with (with_reducible refine wl_stop (o := ⟨some 49, _, _, _, _, _⟩) ?_)
  refine wl_loadS st13 6 rfl rfl rfl Tryz.underlying32 rfl (by kernel_rfl) ?_
  go_wp2_with (with_reducible refine wl_stop (o := ⟨some 50, _, _, _, _, _⟩) ?_)
  refine wl_exec rfl (exec_eqlK v v2 rfl rfl rfl HV.out _) ?_
  go_wp2_with (with_reducible refine wl_stop (o := ⟨some 51, _, _, _, _, _⟩) ?_)
  refine wl_loadS st13 3 rfl rfl rfl Tryz.underlying32 rfl (by kernel_rfl) ?_
  go_wp2_with (with_reducible refine wl_stop (o := ⟨some 52, _, _, _, _, _⟩) ?_)
  refine wl_loadS st13 5 rfl rfl rfl Tryz.underlying32 rfl (by kernel_rfl) ?_
  go_wp2_with (with_reducible refine wl_stop (o := ⟨some 53, _, _, _, _, _⟩) ?_)
  refine wl_exec rfl (exec_neqK u u2 rfl rfl rfl HU.out _) ?_
  go_wp2_with fail
  refine (RNone_u _).mono ?_
  rintro e' w14 ⟨rfl, hf14⟩
  have st14 := st13.keep hf14
  clear st13 hf14
  go_wp2_with (with_reducible refine wl_stop (o := ⟨none, _, _, _, _, _⟩) ?_)
  refine wl_storeS st14 2 rfl rfl rfl rfl rfl (by simp [cw_len]) (by kernel_rfl) (pt_one _ _ _) ?_
  intro w15 st15
  clear st14
  have hr := st15.at 2 rfl
  have hfr := st15.fr
  clear st15
  go_wp2_with fail
  exact bodyPost_ret (results_st rfl rfl hr Tryz.underlying34 rfl (by kernel_rfl)) rfl ⟨rfl, hfr⟩

set_option maxHeartbeats 16000000 in
set_option maxRecDepth 1000000 in
theorem Rdouble_u (x y z X Y Z : K) (w : World) (h : Calls Tryz.prog 86 #[rpV x y z] w fun e w' => e = .returned (rpV X Y Z) ∧ Fr Nob w w') : Calls Tryz.prog 86 #[.agg (cw 4 (kN x) ++ (cw 4 (kN y) ++ cw 4 (kN z))).toArray] w fun e w' => e = .returned (.agg (cw 4 (kN X) ++ (cw 4 (kN Y) ++ cw 4 (kN Z))).toArray) ∧ Fr Nob w w' := h

set_option maxHeartbeats 16000000 in
set_option maxRecDepth 1000000 in
theorem RPlus_dbl (x1 y1 z1 x2 y2 z2 : K) (hb1 : decide (z1 = 0) = false) (hb2 : decide (z2 = 0) = false) (u v u2 v2 : K) (eu : y2 * z1 = u) (ev : x2 * z1 = v) (eu2 : y1 * z2 = u2) (ev2 : x1 * z2 = v2) (hv : decide (v = v2) = true) (hu : decide (u = u2) = true) (hz : decide (u = 0) = false) (X Y Z : K) (hdb : ∀ wx, Calls Tryz.prog 86 #[rpV x1 y1 z1] wx fun e w' => e = .returned (rpV X Y Z) ∧ Fr Nob wx w') (w : World) : Calls Tryz.prog 40 #[rpV x1 y1 z1, rpV x2 y2 z2] w fun e w' => e = .returned (rpV X Y Z) ∧ Fr Nob w w' := by
  have HB1 := Lib.hid hb1
  have HB2 := Lib.hid hb2
  clear hb1 hb2
  have Hu := Lib.hid eu
  have Hv := Lib.hid ev
  have Hu2 := Lib.hid eu2
  have Hv2 := Lib.hid ev2
  clear eu ev eu2 ev2
  have HV := Lib.hid hv
  clear hv
  have HU := Lib.hid hu
  clear hu
  have HZ := Lib.hid hz
  have HDB := Lib.hid hdb
  clear hz hdb
  unfold rpV rpL
  have st0 := St.start Nob w
  go_enter Tryz.func40, Tryz.ntmps40
  go_wp2_with (with_reducible refine wl_stop (o := ⟨some 2, _, _, _, _, _⟩) ?_)
  refine wl_boxS st0 rfl rfl rfl (cw 4 (kN x1) ++ (cw 4 (kN y1) ++ cw 4 (kN z1))) rfl ?_
  intro g2 w1 st1
  clear st0
  go_wp2_with (with_reducible refine wl_stop (o := ⟨some 3, _, _, _, _, _⟩) ?_)
  refine wl_boxS st1 rfl rfl rfl (cw 4 (kN x2) ++ (cw 4 (kN y2) ++ cw 4 (kN z2))) rfl ?_
  intro g3 w2 st2
  clear st1
  go_wp2_with (with_reducible refine wl_stop (o := ⟨some 4, _, _, _, _, _⟩) ?_)
  refine wl_allocS st2 rfl rfl (z := .agg #[.int .u64 0, .int .u64 0, .int .u64 0, .int .u64 0, .int .u64 0, .int .u64 0, .int .u64 0, .int .u64 0, .int .u64 0, .int .u64 0, .int .u64 0, .int .u64 0]) (by kernel_rfl) (cw 12 0) (by rw [cw_zero]; rfl) ?_
  intro g4 w3 st3
  clear st2
  go_wp2_with (with_reducible refine wl_stop (o := ⟨some 16, _, _, _, _, _⟩) ?_)
  refine wl_loadSt st3 0 rfl rfl rfl Tryz.underlying34 rfl rfl (by kernel_rfl) ?_
  go_wp2_with fail
  refine (RIs_any x1 y1 z1 false HB1.out _).mono ?_
  rintro e' w4 ⟨rfl, hf4⟩
  have st4 := st3.keep hf4
  clear st3 hf4
  go_wp2_with (with_reducible refine wl_stop (o := ⟨some 20, _, _, _, _, _⟩) ?_)
  refine wl_loadSt st4 1 rfl rfl rfl Tryz.underlying34 rfl rfl (by kernel_rfl) ?_
  go_wp2_with fail
  refine (RIs_any x2 y2 z2 false HB2.out _).mono ?_
  rintro e' w5 ⟨rfl, hf5⟩
  have st5 := st4.keep hf5
  clear st4 hf5
  go_wp2_with fail
  refine wp_region_noPanic ?_
  refine wp_region_lad st5 7 [.o 6, .w 1, .t 2, .w 3, .t 4, .c 0, .c 5, .j 6] (.m 7 .nil) (by kernel_rfl) (by kernel_rfl) (fun _ _ _ _ _ h => h) ?_
  clear st5
  refine lad_o rfl rfl rfl z_rn (cw 4 0) rfl ?_
  try simp only [Go.Mv.clL]
  refine lad_w (v := ?_) rfl rfl (fun xq wx => ?_) ?_; rotate_left 1; · (go_simp; with_reducible rfl)
  try simp only [Go.Mv.clL]
  refine lad_arr rfl rfl rfl (fun _ => rfl) (cw 4 (kN y2)) (fun wx hS => St.rangeL hS 1 rfl 4 _ (pt_y _ _ _)) Tryz.underlying32 rfl (by kernel_rfl) ?_
  try simp only [Go.Mv.clL]
  refine lad_w (v := ?_) rfl rfl (fun xq wx => ?_) ?_; rotate_left 1; · (go_simp; with_reducible rfl)
  try simp only [Go.Mv.clL]
  refine lad_arr rfl rfl rfl (fun _ => rfl) (cw 4 (kN z1)) (fun wx hS => St.rangeL hS 0 rfl 8 _ (pt_z _ _ _)) Tryz.underlying32 rfl (by kernel_rfl) ?_
  try simp only [Go.Mv.clL]
  refine lad_call rfl rfl rfl Tryz.call33 (fun w hS hR => RF_any _) (fun _ => rfl) ?_
  try simp only [Go.Mv.clL]
  refine lad_call rfl rfl rfl Tryz.call35 (fun w hS hR => KMul y2 z1 u Hu.out _) (fun _ => rfl) ?_
  try simp only [Go.Mv.clL]
  refine lad_j List.mem_cons_self fun g6 => ?_
  simp only [upd, reduceIte]
  refine lad_end fun xq w6 st6 hR => ?_
  try dsimp only
  clear hR xq
  refine plan_m rfl rfl ?_
  refine wp_storeS st6 3 rfl rfl rfl rfl (by simp [cw_len]) (by kernel_rfl) (cw_one _ _) ?_
  intro w7 st7
  repeat (first | simp only [List.cons_append] at st7 | simp only [List.nil_append] at st7 | simp only [List.set_cons_succ] at st7 | simp only [List.set_cons_zero] at st7)
  clear st6
  try simp only [Act.put]
  refine plan_end ?_
  refine NoPanic.normal ?_
  go_wp2_with fail
  refine wp_region_noPanic ?_
  refine wp_region_lad st7 7 [.o 6, .w 1, .t 2, .w 3, .t 4, .c 0, .c 5, .j 6] (.m 7 .nil) (by kernel_rfl) (by kernel_rfl) (fun _ _ _ _ _ h => h) ?_
  clear st7
  refine lad_o rfl rfl rfl z_rn (cw 4 0) rfl ?_
  try simp only [Go.Mv.clL]
  refine lad_w (v := ?_) rfl rfl (fun xq wx => ?_) ?_; rotate_left 1; · (go_simp; with_reducible rfl)
  try simp only [Go.Mv.clL]
  refine lad_arr rfl rfl rfl (fun _ => rfl) (cw 4 (kN x2)) (fun wx hS => St.rangeL hS 1 rfl 0 _ (pt_x _ _ _)) Tryz.underlying32 rfl (by kernel_rfl) ?_
  try simp only [Go.Mv.clL]
  refine lad_w (v := ?_) rfl rfl (fun xq wx => ?_) ?_; rotate_left 1; · (go_simp; with_reducible rfl)
  try simp only [Go.Mv.clL]
  refine lad_arr rfl rfl rfl (fun _ => rfl) (cw 4 (kN z1)) (fun wx hS => St.rangeL hS 0 rfl 8 _ (pt_z _ _ _)) Tryz.underlying32 rfl (by kernel_rfl) ?_
  try simp only [Go.Mv.clL]
  refine lad_call rfl rfl rfl Tryz.call33 (fun w hS hR => RF_any _) (fun _ => rfl) ?_
  try simp only [Go.Mv.clL]
  refine lad_call rfl rfl rfl Tryz.call35 (fun w hS hR => KMul x2 z1 v Hv.out _) (fun _ => rfl) ?_
  try simp only [Go.Mv.clL]
  refine lad_j List.mem_cons_self fun g7 => ?_
  simp only [upd, reduceIte]
  refine lad_end fun xq w8 st8 hR => ?_
  try dsimp only
  clear hR xq
  refine plan_m rfl rfl ?_
  refine wp_storeS st8 4 rfl rfl rfl rfl (by simp [cw_len]) (by kernel_rfl) (cw_one _ _) ?_
  intro w9 st9
  repeat (first | simp only [List.cons_append] at st9 | simp only [List.nil_append] at st9 | simp only [List.set_cons_succ] at st9 | simp only [List.set_cons_zero] at st9)
  clear st8
  try simp only [Act.put]
  refine plan_end ?_
  refine NoPanic.normal ?_
  go_wp2_with fail
  refine wp_region_noPanic ?_
  refine wp_region_lad st9 7 [.o 6, .w 1, .t 2, .w 3, .t 4, .c 0, .c 5, .j 6] (.m 7 .nil) (by kernel_rfl) (by kernel_rfl) (fun _ _ _ _ _ h => h) ?_
  clear st9
  refine lad_o rfl rfl rfl z_rn (cw 4 0) rfl ?_
  try simp only [Go.Mv.clL]
  refine lad_w (v := ?_) rfl rfl (fun xq wx => ?_) ?_; rotate_left 1; · (go_simp; with_reducible rfl)
  try simp only [Go.Mv.clL]
  refine lad_arr rfl rfl rfl (fun _ => rfl) (cw 4 (kN y1)) (fun wx hS => St.rangeL hS 0 rfl 4 _ (pt_y _ _ _)) Tryz.underlying32 rfl (by kernel_rfl) ?_
  try simp only [Go.Mv.clL]
  refine lad_w (v := ?_) rfl rfl (fun xq wx => ?_) ?_; rotate_left 1; · (go_simp; with_reducible rfl)
  try simp only [Go.Mv.clL]
  refine lad_arr rfl rfl rfl (fun _ => rfl) (cw 4 (kN z2)) (fun wx hS => St.rangeL hS 1 rfl 8 _ (pt_z _ _ _)) Tryz.underlying32 rfl (by kernel_rfl) ?_
  try simp only [Go.Mv.clL]
  refine lad_call rfl rfl rfl Tryz.call33 (fun w hS hR => RF_any _) (fun _ => rfl) ?_
  try simp only [Go.Mv.clL]
  refine lad_call rfl rfl rfl Tryz.call35 (fun w hS hR => KMul y1 z2 u2 Hu2.out _) (fun _ => rfl) ?_
  try simp only [Go.Mv.clL]
  refine lad_j List.mem_cons_self fun g8 => ?_
  simp only [upd, reduceIte]
  refine lad_end fun xq w10 st10 hR => ?_
  try dsimp only
  clear hR xq
  refine plan_m rfl rfl ?_
  refine wp_storeS st10 5 rfl rfl rfl rfl (by simp [cw_len]) (by kernel_rfl) (cw_one _ _) ?_
  intro w11 st11
  repeat (first | simp only [List.cons_append] at st11 | simp only [List.nil_append] at st11 | simp only [List.set_cons_succ] at st11 | simp only [List.set_cons_zero] at st11)
  clear st10
  try simp only [Act.put]
  refine plan_end ?_
  refine NoPanic.normal ?_
  go_wp2_with fail
  refine wp_region_noPanic ?_
  refine wp_region_lad st11 7 [.o 6, .w 1, .t 2, .w 3, .t 4, .c 0, .c 5, .j 6] (.m 7 .nil) (by kernel_rfl) (by kernel_rfl) (fun _ _ _ _ _ h => h) ?_
  clear st11
  refine lad_o rfl rfl rfl z_rn (cw 4 0) rfl ?_
  try simp only [Go.Mv.clL]
  refine lad_w (v := ?_) rfl rfl (fun xq wx => ?_) ?_; rotate_left 1; · (go_simp; with_reducible rfl)
  try simp only [Go.Mv.clL]
  refine lad_arr rfl rfl rfl (fun _ => rfl) (cw 4 (kN x1)) (fun wx hS => St.rangeL hS 0 rfl 0 _ (pt_x _ _ _)) Tryz.underlying32 rfl (by kernel_rfl) ?_
  try simp only [Go.Mv.clL]
  refine lad_w (v := ?_) rfl rfl (fun xq wx => ?_) ?_; rotate_left 1; · (go_simp; with_reducible rfl)
  try simp only [Go.Mv.clL]
  refine lad_arr rfl rfl rfl (fun _ => rfl) (cw 4 (kN z2)) (fun wx hS => St.rangeL hS 1 rfl 8 _ (pt_z _ _ _)) Tryz.underlying32 rfl (by kernel_rfl) ?_
  try simp only [Go.Mv.clL]
  refine lad_call rfl rfl rfl Tryz.call33 (fun w hS hR => RF_any _) (fun _ => rfl) ?_
  try simp only [Go.Mv.clL]
  refine lad_call rfl rfl rfl Tryz.call35 (fun w hS hR => KMul x1 z2 v2 Hv2.out _) (fun _ => rfl) ?_
  try simp only [Go.Mv.clL]
  refine lad_j List.mem_cons_self fun g9 => ?_
  simp only [upd, reduceIte]
  refine lad_end fun xq w12 st12 hR => ?_
  try dsimp only
  clear hR xq
  refine plan_m rfl rfl ?_
  refine wp_storeS st12 6 rfl rfl rfl rfl (by simp [cw_len]) (by kernel_rfl) (cw_one _ _) ?_
  intro w13 st13
  repeat (first | simp only [List.cons_append] at st13 | simp only [List.nil_append] at st13 | simp only [List.set_cons_succ] at st13 | simp only [List.set_cons_zero] at st13)
  clear st12
  try simp only [Act.put]
  refine plan_end ?_
  refine NoPanic.normal ?_
  go_wp2_with (with_reducible refine wl_stop (o := ⟨some 48, _, _, _, _, _⟩) ?_)
  refine wl_loadS st13 4 rfl rfl rfl Tryz.underlying32 rfl (by kernel_rfl) ?_
  go_wp2_with (with_reducible refine wl_stop (o := ⟨some 49, _, _, _, _, _⟩) ?_)
  refine wl_loadS st13 6 rfl rfl rfl Tryz.underlying32 rfl (by kernel_rfl) ?_
  go_wp2_with (with_reducible refine wl_stop (o := ⟨some 50, _, _, _, _, _⟩) ?_)
  refine wl_exec rfl (exec_eqlK v v2 rfl rfl rfl HV.out _) ?_
  go_wp2_with (with_reducible refine wl_stop (o := ⟨some 51, _, _, _, _, _⟩) ?_)
  refine wl_loadS st13 3 rfl rfl rfl Tryz.underlying32 rfl (by kernel_rfl) ?_
  go_wp2_with (with_reducible refine wl_stop (o := ⟨some 52, _, _, _, _, _⟩) ?_)
  refine wl_loadS st13 5 rfl rfl rfl Tryz.underlying32 rfl (by kernel_rfl) ?_
  go_wp2_with (with_reducible refine wl_stop (o := ⟨some 53, _, _, _, _, _⟩) ?_)
  refine wl_exec rfl (exec_neqK u u2 rfl rfl rfl HU.out _) ?_
  go_wp2_with (with_reducible refine wl_stop (o := ⟨some 55, _, _, _, _, _⟩) ?_)
  refine wl_met rfl ?_
  refine wl_loadS st13 3 rfl rfl rfl Tryz.underlying32 rfl (by kernel_rfl) ?_
  go_wp2_with fail
  refine (KZero u false HZ.out _).mono ?_
  rintro e' w14 ⟨rfl, hf14⟩
  have st14 := st13.keep hf14
  clear st13 hf14
  go_wp2_with (with_reducible refine wl_stop (o := ⟨some 59, _, _, _, _, _⟩) ?_)
  refine wl_loadSt st14 0 rfl rfl rfl Tryz.underlying34 rfl rfl (by kernel_rfl) ?_
  go_wp2_with fail
  refine (Rdouble_u x1 y1 z1 X Y Z _ (HDB.out _)).mono ?_
  rintro e' w15 ⟨rfl, hf15⟩
  have st15 := st14.keep hf15
  clear st14 hf15
  go_wp2_with (with_reducible refine wl_stop (o := ⟨none, _, _, _, _, _⟩) ?_)
  refine wl_storeS st15 2 rfl rfl rfl rfl rfl (by simp [cw_len]) (by kernel_rfl) (pt_one _ _ _) ?_
  intro w16 st16
  clear st15
  have hr := st16.at 2 rfl
  have hfr := st16.fr
  clear st16
  go_wp2_with fail
  exact bodyPost_ret (results_st rfl rfl hr Tryz.underlying34 rfl (by kernel_rfl)) rfl ⟨rfl, hfr⟩

set_option maxHeartbeats 16000000 in
set_option maxRecDepth 1000000 in
theorem RPlus_v (x1 y1 z1 x2 y2 z2 : K) (hb1 : decide (z1 = 0) = false) (hb2 : decide (z2 = 0) = false) (u v u2 v2 d ee ww e2 e3 t1 t2 t3 t4 t5 t X s1 s2 s3 s4 Y Z : K) (eu : y2 * z1 = u) (ev : x2 * z1 = v) (eu2 : y1 * z2 = u2) (ev2 : x1 * z2 = v2) (ed : u - u2 = d) (eee : v - v2 = ee) (eww : z1 * z2 = ww) (ee2 : ee * ee = e2) (ee3 : e2 * ee = e3) (et1 : d * d = t1) (et2 : t1 * ww = t2) (et3 : t2 - e3 = t3) (et4 : v2 + v2 = t4) (et5 : t4 * e2 = t5) (et : t3 - t5 = t) (eX : ee * t = X) (es1 : v2 * e2 = s1) (es2 : s1 - t = s2) (es3 : d * s2 = s3) (es4 : u2 * e3 = s4) (eY : s3 - s4 = Y) (eZ : e3 * ww = Z) (hv : decide (v = v2) = false) (w : World) : Calls Tryz.prog 40 #[rpV x1 y1 z1, rpV x2 y2 z2] w fun e w' => e = .returned (rpV X Y Z) ∧ Fr Nob w w' := by
  have HB1 := Lib.hid hb1
  have HB2 := Lib.hid hb2
  clear hb1 hb2
  have Hu := Lib.hid eu
  have Hv := Lib.hid ev
  have Hu2 := Lib.hid eu2
  have Hv2 := Lib.hid ev2
  have Hd := Lib.hid ed
  have Hee := Lib.hid eee
  have Hww := Lib.hid eww
  have He2 := Lib.hid ee2
  have He3 := Lib.hid ee3
  have Ht1 := Lib.hid et1
  have Ht2 := Lib.hid et2
  have Ht3 := Lib.hid et3
  have Ht4 := Lib.hid et4
  have Ht5 := Lib.hid et5
  have Ht := Lib.hid et
  have HX := Lib.hid eX
  have Hs1 := Lib.hid es1
  have Hs2 := Lib.hid es2
  have Hs3 := Lib.hid es3
  have Hs4 := Lib.hid es4
  have HY := Lib.hid eY
  have HZ := Lib.hid eZ
  clear eu ev eu2 ev2 ed eee eww ee2 ee3 et1 et2 et3 et4 et5 et eX es1 es2 es3 es4 eY eZ
  have HV := Lib.hid hv
  clear hv
  unfold rpV rpL
  have st0 := St.start Nob w
  go_enter Tryz.func40, Tryz.ntmps40
  go_wp2_with (with_reducible refine wl_stop (o := ⟨some 2, _, _, _, _, _⟩) ?_)
  refine wl_boxS st0 rfl rfl rfl (cw 4 (kN x1) ++ (cw 4 (kN y1) ++ cw 4 (kN z1))) rfl ?_
  intro g2 w1 st1
  clear st0
  go_wp2_with (with_reducible refine wl_stop (o := ⟨some 3, _, _, _, _, _⟩) ?_)
  refine wl_boxS st1 rfl rfl rfl (cw 4 (kN x2) ++ (cw 4 (kN y2) ++ cw 4 (kN z2))) rfl ?_
  intro g3 w2 st2
  clear st1
  go_wp2_with (with_reducible refine wl_stop (o := ⟨some 4, _, _, _, _, _⟩) ?_)
  refine wl_allocS st2 rfl rfl (z := .agg #[.int .u64 0, .int .u64 0, .int .u64 0, .int .u64 0, .int .u64 0, .int .u64 0, .int .u64 0, .int .u64 0, .int .u64 0, .int .u64 0, .int .u64 0, .int .u64 0]) (by kernel_rfl) (cw 12 0) (by rw [cw_zero]; rfl) ?_
  intro g4 w3 st3
  clear st2
  go_wp2_with (with_reducible refine wl_stop (o := ⟨some 16, _, _, _, _, _⟩) ?_)
  refine wl_loadSt st3 0 rfl rfl rfl Tryz.underlying34 rfl rfl (by kernel_rfl) ?_
  go_wp2_with fail
  refine (RIs_any x1 y1 z1 false HB1.out _).mono ?_
  rintro e' w4 ⟨rfl, hf4⟩
  have st4 := st3.keep hf4
  clear st3 hf4
  go_wp2_with (with_reducible refine wl_stop (o := ⟨some 20, _, _, _, _, _⟩) ?_)
  refine wl_loadSt st4 1 rfl rfl rfl Tryz.underlying34 rfl rfl (by kernel_rfl) ?_
  go_wp2_with fail
  refine (RIs_any x2 y2 z2 false HB2.out _).mono ?_
  rintro e' w5 ⟨rfl, hf5⟩
  have st5 := st4.keep hf5
  clear st4 hf5
  go_wp2_with fail
  refine wp_region_noPanic ?_
  refine wp_region_lad st5 7 [.o 6, .w 1, .t 2, .w 3, .t 4, .c 0, .c 5, .j 6] (.m 7 .nil) (by kernel_rfl) (by kernel_rfl) (fun _ _ _ _ _ h => h) ?_
  clear st5
  refine lad_o rfl rfl rfl z_rn (cw 4 0) rfl ?_
  try simp only [Go.Mv.clL]
  refine lad_w (v := ?_) rfl rfl (fun xq wx => ?_) ?_; rotate_left 1; · (go_simp; with_reducible rfl)
  try simp only [Go.Mv.clL]
  refine lad_arr rfl rfl rfl (fun _ => rfl) (cw 4 (kN y2)) (fun wx hS => St.rangeL hS 1 rfl 4 _ (pt_y _ _ _)) Tryz.underlying32 rfl (by kernel_rfl) ?_
  try simp only [Go.Mv.clL]
  refine lad_w (v := ?_) rfl rfl (fun xq wx => ?_) ?_; rotate_left 1; · (go_simp; with_reducible rfl)
  try simp only [Go.Mv.clL]
  refine lad_arr rfl rfl rfl (fun _ => rfl) (cw 4 (kN z1)) (fun wx hS => St.rangeL hS 0 rfl 8 _ (pt_z _ _ _)) Tryz.underlying32 rfl (by kernel_rfl) ?_
  try simp only [Go.Mv.clL]
  refine lad_call rfl rfl rfl Tryz.call33 (fun w hS hR => RF_any _) (fun _ => rfl) ?_
  try simp only [Go.Mv.clL]
  refine lad_call rfl rfl rfl Tryz.call35 (fun w hS hR => KMul y2 z1 u Hu.out _) (fun _ => rfl) ?_
  try simp only [Go.Mv.clL]
  refine lad_j List.mem_cons_self fun g6 => ?_
  simp only [upd, reduceIte]
  refine lad_end fun xq w6 st6 hR => ?_
  try dsimp only
  clear hR xq
  refine plan_m rfl rfl ?_
  refine wp_storeS st6 3 rfl rfl rfl rfl (by simp [cw_len]) (by kernel_rfl) (cw_one _ _) ?_
  intro w7 st7
  repeat (first | simp only [List.cons_append] at st7 | simp only [List.nil_append] at st7 | simp only [List.set_cons_succ] at st7 | simp only [List.set_cons_zero] at st7)
  clear st6
  try simp only [Act.put]
  refine plan_end ?_
  refine NoPanic.normal ?_
  go_wp2_with fail
  refine wp_region_noPanic ?_
  refine wp_region_lad st7 7 [.o 6, .w 1, .t 2, .w 3, .t 4, .c 0, .c 5, .j 6] (.m 7 .nil) (by kernel_rfl) (by kernel_rfl) (fun _ _ _ _ _ h => h) ?_
  clear st7
  refine lad_o rfl rfl rfl z_rn (cw 4 0) rfl ?_
  try simp only [Go.Mv.clL]
  refine lad_w (v := ?_) rfl rfl (fun xq wx => ?_) ?_; rotate_left 1; · (go_simp; with_reducible rfl)
  try simp only [Go.Mv.clL]
  refine lad_arr rfl rfl rfl (fun _ => rfl) (cw 4 (kN x2)) (fun wx hS => St.rangeL hS 1 rfl 0 _ (pt_x _ _ _)) Tryz.underlying32 rfl (by kernel_rfl) ?_
  try simp only [Go.Mv.clL]
  refine lad_w (v := ?_) rfl rfl (fun xq wx => ?_) ?_; rotate_left 1; · (go_simp; with_reducible rfl)
  try simp only [Go.Mv.clL]
  refine lad_arr rfl rfl rfl (fun _ => rfl) (cw 4 (kN z1)) (fun wx hS => St.rangeL hS 0 rfl 8 _ (pt_z _ _ _)) Tryz.underlying32 rfl (by kernel_rfl) ?_
  try simp only [Go.Mv.clL]
  refine lad_call rfl rfl rfl Tryz.call33 (fun w hS hR => RF_any _) (fun _ => rfl) ?_
  try simp only [Go.Mv.clL]
  refine lad_call rfl rfl rfl Tryz.call35 (fun w hS hR => KMul x2 z1 v Hv.out _) (fun _ => rfl) ?_
  try simp only [Go.Mv.clL]
  refine lad_j List.mem_cons_self fun g7 => ?_
  simp only [upd, reduceIte]
  refine lad_end fun xq w8 st8 hR => ?_
  try dsimp only
  clear hR xq
  refine plan_m rfl rfl ?_
  refine wp_storeS st8 4 rfl rfl rfl rfl (by simp [cw_len]) (by kernel_rfl) (cw_one _ _) ?_
  intro w9 st9
  repeat (first | simp only [List.cons_append] at st9 | simp only [List.nil_append] at st9 | simp only [List.set_cons_succ] at st9 | simp only [List.set_cons_zero] at st9)
  clear st8
  try simp only [Act.put]
  refine plan_end ?_
  refine NoPanic.normal ?_
  go_wp2_with fail
  refine wp_region_noPanic ?_
  refine wp_region_lad st9 7 [.o 6, .w 1, .t 2, .w 3, .t 4, .c 0, .c 5, .j 6] (.m 7 .nil) (by kernel_rfl) (by kernel_rfl) (fun _ _ _ _ _ h => h) ?_
  clear st9
  refine lad_o rfl rfl rfl z_rn (cw 4 0) rfl ?_
  try simp only [Go.Mv.clL]
  refine lad_w (v := ?_) rfl rfl (fun xq wx => ?_) ?_; rotate_left 1; · (go_simp; with_reducible rfl)
  try simp only [Go.Mv.clL]
  refine lad_arr rfl rfl rfl (fun _ => rfl) (cw 4 (kN y1)) (fun wx hS => St.rangeL hS 0 rfl 4 _ (pt_y _ _ _)) Tryz.underlying32 rfl (by kernel_rfl) ?_
  try simp only [Go.Mv.clL]
  refine lad_w (v := ?_) rfl rfl (fun xq wx => ?_) ?_; rotate_left 1; · (go_simp; with_reducible rfl)
  try simp only [Go.Mv.clL]
  refine lad_arr rfl rfl rfl (fun _ => rfl) (cw 4 (kN z2)) (fun wx hS => St.rangeL hS 1 rfl 8 _ (pt_z _ _ _)) Tryz.underlying32 rfl (by kernel_rfl) ?_
  try simp only [Go.Mv.clL]
  refine lad_call rfl rfl rfl Tryz.call33 (fun w hS hR => RF_any _) (fun _ => rfl) ?_
  try simp only [Go.Mv.clL]
  refine lad_call rfl rfl rfl Tryz.call35 (fun w hS hR => KMul y1 z2 u2 Hu2.out _) (fun _ => rfl) ?_
  try simp only [Go.Mv.clL]
  refine lad_j List.mem_cons_self fun g8 => ?_
  simp only [upd, reduceIte]
  refine lad_end fun xq w10 st10 hR => ?_
  try dsimp only
  clear hR xq
  refine plan_m rfl rfl ?_
  refine wp_storeS st10 5 rfl rfl rfl rfl (by simp [cw_len]) (by kernel_rfl) (cw_one _ _) ?_
  intro w11 st11
  repeat (first | simp only [List.cons_append] at st11 | simp only [List.nil_append] at st11 | simp only [List.set_cons_succ] at st11 | simp only [List.set_cons_zero] at st11)
  clear st10
  try simp only [Act.put]
  refine plan_end ?_
  refine NoPanic.normal ?_
  go_wp2_with fail
  refine wp_region_noPanic ?_
  refine wp_region_lad st11 7 [.o 6, .w 1, .t 2, .w 3, .t 4, .c 0, .c 5, .j 6] (.m 7 .nil) (by kernel_rfl) (by kernel_rfl) (fun _ _ _ _ _ h => h) ?_
  clear st11
  refine lad_o rfl rfl rfl z_rn (cw 4 0) rfl ?_
  try simp only [Go.Mv.clL]
  refine lad_w (v := ?_) rfl rfl (fun xq wx => ?_) ?_; rotate_left 1; · (go_simp; with_reducible rfl)
  try simp only [Go.Mv.clL]
  refine lad_arr rfl rfl rfl (fun _ => rfl) (cw 4 (kN x1)) (fun wx hS => St.rangeL hS 0 rfl 0 _ (pt_x _ _ _)) Tryz.underlying32 rfl (by kernel_rfl) ?_
  try simp only [Go.Mv.clL]
  refine lad_w (v := ?_) rfl rfl (fun xq wx => ?_) ?_; rotate_left 1; · (go_simp; with_reducible rfl)
  try simp only [Go.Mv.clL]
  refine lad_arr rfl rfl rfl (fun _ => rfl) (cw 4 (kN z2)) (fun wx hS => St.rangeL hS 1 rfl 8 _ (pt_z _ _ _)) Tryz.underlying32 rfl (by kernel_rfl) ?_
  try simp only [Go.Mv.clL]
  refine lad_call rfl rfl rfl Tryz.call33 (fun w hS hR => RF_any _) (fun _ => rfl) ?_
  try simp only [Go.Mv.clL]
  refine lad_call rfl rfl rfl Tryz.call35 (fun w hS hR => KMul x1 z2 v2 Hv2.out _) (fun _ => rfl) ?_
  try simp only [Go.Mv.clL]
  refine lad_j List.mem_cons_self fun g9 => ?_
  simp only [upd, reduceIte]
  refine lad_end fun xq w12 st12 hR => ?_
  try dsimp only
  clear hR xq
  refine plan_m rfl rfl ?_
  refine wp_storeS st12 6 rfl rfl rfl rfl (by simp [cw_len]) (by kernel_rfl) (cw_one _ _) ?_
  intro w13 st13
  repeat (first | simp only [List.cons_append] at st13 | simp only [List.nil_append] at st13 | simp only [List.set_cons_succ] at st13 | simp only [List.set_cons_zero] at st13)
  clear st12
  try simp only [Act.put]
  refine plan_end ?_
  refine NoPanic.normal ?_
  go_wp2_with (with_reducible refine wl_stop (o := ⟨some 48, _, _, _, _, _⟩) ?_)
  refine wl_loadS st13 4 rfl rfl rfl Tryz.underlying32 rfl (by kernel_rfl) ?_
  go_wp2_with (with_reducible refine wl_stop (o := ⟨some 49, _, _, _, _, _⟩) ?_)
  refine wl_loadS st13 6 rfl rfl rfl Tryz.underlying32 rfl (by kernel_rfl) ?_
  go_wp2_with (with_reducible refine wl_stop (o := ⟨some 50, _, _, _, _, _⟩) ?_)
  refine wl_exec rfl (exec_eqlK v v2 rfl rfl rfl HV.out _) ?_
  go_wp2_with fail
  refine wp_region_noPanic ?_
  refine wp_region_lad st13 5 [.o 4, .t 1, .t 2, .c 0, .c 3, .j 4] (.m 5 .nil) (by kernel_rfl) (by kernel_rfl) (fun _ _ _ _ _ h => h) ?_
  clear st13
  refine lad_o rfl rfl rfl z_rn (cw 4 0) rfl ?_
  try simp only [Go.Mv.clL]
  refine lad_arr rfl rfl rfl (fun _ => rfl) (cw 4 (kN u)) (fun wx hS => St.rangeL hS 3 rfl 0 _ (by rw [List.drop_zero, List.take_of_length_le (Nat.le_refl _)])) Tryz.underlying32 rfl (by kernel_rfl) ?_
  try simp only [Go.Mv.clL]
  refine lad_arr rfl rfl rfl (fun _ => rfl) (cw 4 (kN u2)) (fun wx hS => St.rangeL hS 5 rfl 0 _ (by rw [List.drop_zero, List.take_of_length_le (Nat.le_refl _)])) Tryz.underlying32 rfl (by kernel_rfl) ?_
  try simp only [Go.Mv.clL]
  refine lad_call rfl rfl rfl Tryz.call33 (fun w hS hR => RF_any _) (fun _ => rfl) ?_
  try simp only [Go.Mv.clL]
  refine lad_call rfl rfl rfl Tryz.call87 (fun w hS hR => KSub u u2 d Hd.out _) (fun _ => rfl) ?_
  try simp only [Go.Mv.clL]
  refine lad_j List.mem_cons_self fun g10 => ?_
  simp only [upd, reduceIte]
  refine lad_end fun xq w14 st14 hR => ?_
  try dsimp only
  clear hR xq
  refine plan_m rfl rfl ?_
  refine wp_storeS st14 7 rfl rfl rfl rfl (by simp [cw_len]) (by kernel_rfl) (cw_one _ _) ?_
  intro w15 st15
  repeat (first | simp only [List.cons_append] at st15 | simp only [List.nil_append] at st15 | simp only [List.set_cons_succ] at st15 | simp only [List.set_cons_zero] at st15)
  clear st14
  try simp only [Act.put]
  refine plan_end ?_
  refine NoPanic.normal ?_
  go_wp2_with fail
  refine wp_region_noPanic ?_
  refine wp_region_lad st15 5 [.o 4, .t 1, .t 2, .c 0, .c 3, .j 4] (.m 5 .nil) (by kernel_rfl) (by kernel_rfl) (fun _ _ _ _ _ h => h) ?_
  clear st15
  refine lad_o rfl rfl rfl z_rn (cw 4 0) rfl ?_
  try simp only [Go.Mv.clL]
  refine lad_arr rfl rfl rfl (fun _ => rfl) (cw 4 (kN v)) (fun wx hS => St.rangeL hS 4 rfl 0 _ (by rw [List.drop_zero, List.take_of_length_le (Nat.le_refl _)])) Tryz.underlying32 rfl (by kernel_rfl) ?_
  try simp only [Go.Mv.clL]
  refine lad_arr rfl rfl rfl (fun _ => rfl) (cw 4 (kN v2)) (fun wx hS => St.rangeL hS 6 rfl 0 _ (by rw [List.drop_zero, List.take_of_length_le (Nat.le_refl _)])) Tryz.underlying32 rfl (by kernel_rfl) ?_
  try simp only [Go.Mv.clL]
  refine lad_call rfl rfl rfl Tryz.call33 (fun w hS hR => RF_any _) (fun _ => rfl) ?_
  try simp only [Go.Mv.clL]
  refine lad_call rfl rfl rfl Tryz.call87 (fun w hS hR => KSub v v2 ee Hee.out _) (fun _ => rfl) ?_
  try simp only [Go.Mv.clL]
  refine lad_j List.mem_cons_self fun g11 => ?_
  simp only [upd, reduceIte]
  refine lad_end fun xq w16 st16 hR => ?_
  try dsimp only
  clear hR xq
  refine plan_m rfl rfl ?_
  refine wp_storeS st16 8 rfl rfl rfl rfl (by simp [cw_len]) (by kernel_rfl) (cw_one _ _) ?_
  intro w17 st17
  repeat (first | simp only [List.cons_append] at st17 | simp only [List.nil_append] at st17 | simp only [List.set_cons_succ] at st17 | simp only [List.set_cons_zero] at st17)
  clear st16
  try simp only [Act.put]
  refine plan_end ?_
  refine NoPanic.normal ?_
  go_wp2_with fail
  refine wp_region_noPanic ?_
  refine wp_region_lad st17 7 [.o 6, .w 1, .t 2, .w 3, .t 4, .c 0, .c 5, .j 6] (.m 7 .nil) (by kernel_rfl) (by kernel_rfl) (fun _ _ _ _ _ h => h) ?_
  clear st17
  refine lad_o rfl rfl rfl z_rn (cw 4 0) rfl ?_
  try simp only [Go.Mv.clL]
  refine lad_w (v := ?_) rfl rfl (fun xq wx => ?_) ?_; rotate_left 1; · (go_simp; with_reducible rfl)
  try simp only [Go.Mv.clL]
  refine lad_arr rfl rfl rfl (fun _ => rfl) (cw 4 (kN z1)) (fun wx hS => St.rangeL hS 0 rfl 8 _ (pt_z _ _ _)) Tryz.underlying32 rfl (by kernel_rfl) ?_
  try simp only [Go.Mv.clL]
  refine lad_w (v := ?_) rfl rfl (fun xq wx => ?_) ?_; rotate_left 1; · (go_simp; with_reducible rfl)
  try simp only [Go.Mv.clL]
  refine lad_arr rfl rfl rfl (fun _ => rfl) (cw 4 (kN z2)) (fun wx hS => St.rangeL hS 1 rfl 8 _ (pt_z _ _ _)) Tryz.underlying32 rfl (by kernel_rfl) ?_
  try simp only [Go.Mv.clL]
  refine lad_call rfl rfl rfl Tryz.call33 (fun w hS hR => RF_any _) (fun _ => rfl) ?_
  try simp only [Go.Mv.clL]
  refine lad_call rfl rfl rfl Tryz.call35 (fun w hS hR => KMul z1 z2 ww Hww.out _) (fun _ => rfl) ?_
  try simp only [Go.Mv.clL]
  refine lad_j List.mem_cons_self fun g12 => ?_
  simp only [upd, reduceIte]
  refine lad_end fun xq w18 st18 hR => ?_
  try dsimp only
  clear hR xq
  refine plan_m rfl rfl ?_
  refine wp_storeS st18 9 rfl rfl rfl rfl (by simp [cw_len]) (by kernel_rfl) (cw_one _ _) ?_
  intro w19 st19
  repeat (first | simp only [List.cons_append] at st19 | simp only [List.nil_append] at st19 | simp only [List.set_cons_succ] at st19 | simp only [List.set_cons_zero] at st19)
  clear st18
  try simp only [Act.put]
  refine plan_end ?_
  refine NoPanic.normal ?_
  go_wp2_with fail
  refine wp_region_noPanic ?_
  refine wp_region_lad st19 5 [.o 4, .t 1, .t 2, .c 0, .c 3, .j 4] (.m 5 .nil) (by kernel_rfl) (by kernel_rfl) (fun _ _ _ _ _ h => h) ?_
  clear st19
  refine lad_o rfl rfl rfl z_rn (cw 4 0) rfl ?_
  try simp only [Go.Mv.clL]
  refine lad_arr rfl rfl rfl (fun _ => rfl) (cw 4 (kN ee)) (fun wx hS => St.rangeL hS 8 rfl 0 _ (by rw [List.drop_zero, List.take_of_length_le (Nat.le_refl _)])) Tryz.underlying32 rfl (by kernel_rfl) ?_
  try simp only [Go.Mv.clL]
  refine lad_arr rfl rfl rfl (fun _ => rfl) (cw 4 (kN ee)) (fun wx hS => St.rangeL hS 8 rfl 0 _ (by rw [List.drop_zero, List.take_of_length_le (Nat.le_refl _)])) Tryz.underlying32 rfl (by kernel_rfl) ?_
  try simp only [Go.Mv.clL]
  refine lad_call rfl rfl rfl Tryz.call33 (fun w hS hR => RF_any _) (fun _ => rfl) ?_
  try simp only [Go.Mv.clL]
  refine lad_call rfl rfl rfl Tryz.call35 (fun w hS hR => KMul ee ee e2 He2.out _) (fun _ => rfl) ?_
  try simp only [Go.Mv.clL]
  refine lad_j List.mem_cons_self fun g13 => ?_
  simp only [upd, reduceIte]
  refine lad_end fun xq w20 st20 hR => ?_
  try dsimp only
  clear hR xq
  refine plan_m rfl rfl ?_
  refine wp_storeS st20 10 rfl rfl rfl rfl (by simp [cw_len]) (by kernel_rfl) (cw_one _ _) ?_
  intro w21 st21
  repeat (first | simp only [List.cons_append] at st21 | simp only [List.nil_append] at st21 | simp only [List.set_cons_succ] at st21 | simp only [List.set_cons_zero] at st21)
  clear st20
  try simp only [Act.put]
  refine plan_end ?_
  refine NoPanic.normal ?_
  go_wp2_with fail
  refine wp_region_noPanic ?_
  refine wp_region_lad st21 5 [.o 4, .t 1, .t 2, .c 0, .c 3, .j 4] (.m 5 .nil) (by kernel_rfl) (by kernel_rfl) (fun _ _ _ _ _ h => h) ?_
  clear st21
  refine lad_o rfl rfl rfl z_rn (cw 4 0) rfl ?_
  try simp only [Go.Mv.clL]
  refine lad_arr rfl rfl rfl (fun _ => rfl) (cw 4 (kN e2)) (fun wx hS => St.rangeL hS 10 rfl 0 _ (by rw [List.drop_zero, List.take_of_length_le (Nat.le_refl _)])) Tryz.underlying32 rfl (by kernel_rfl) ?_
  try simp only [Go.Mv.clL]
  refine lad_arr rfl rfl rfl (fun _ => rfl) (cw 4 (kN ee)) (fun wx hS => St.rangeL hS 8 rfl 0 _ (by rw [List.drop_zero, List.take_of_length_le (Nat.le_refl _)])) Tryz.underlying32 rfl (by kernel_rfl) ?_
  try simp only [Go.Mv.clL]
  refine lad_call rfl rfl rfl Tryz.call33 (fun w hS hR => RF_any _) (fun _ => rfl) ?_
  try simp only [Go.Mv.clL]
  refine lad_call rfl rfl rfl Tryz.call35 (fun w hS hR => KMul e2 ee e3 He3.out _) (fun _ => rfl) ?_
  try simp only [Go.Mv.clL]
  refine lad_j List.mem_cons_self fun g14 => ?_
  simp only [upd, reduceIte]
  refine lad_end fun xq w22 st22 hR => ?_
  try dsimp only
  clear hR xq
  refine plan_m rfl rfl ?_
  refine wp_storeS st22 11 rfl rfl rfl rfl (by simp [cw_len]) (by kernel_rfl) (cw_one _ _) ?_
  intro w23 st23
  repeat (first | simp only [List.cons_append] at st23 | simp only [List.nil_append] at st23 | simp only [List.set_cons_succ] at st23 | simp only [List.set_cons_zero] at st23)
  clear st22
  try simp only [Act.put]
  refine plan_end ?_
  refine NoPanic.normal ?_
  go_wp2_with fail
  refine wp_region_noPanic ?_
  refine wp_region_lad st23 20 [.o 19, .t 4, .t 5, .t 7, .t 9, .t 13, .t 14, .t 16, .c 0, .c 1, .c 2, .c 3, .c 6, .c 8, .c 10, .c 11, .c 12, .c 15, .c 17, .c 18, .j 19] (.m 20 .nil) (by kernel_rfl) (by kernel_rfl) (fun _ _ _ _ _ h => h) ?_
  clear st23
  refine lad_o rfl rfl rfl z_rn (cw 4 0) rfl ?_
  try simp only [Go.Mv.clL]
  refine lad_arr rfl rfl rfl (fun _ => rfl) (cw 4 (kN d)) (fun wx hS => St.rangeL hS 7 rfl 0 _ (by rw [List.drop_zero, List.take_of_length_le (Nat.le_refl _)])) Tryz.underlying32 rfl (by kernel_rfl) ?_
  try simp only [Go.Mv.clL]
  refine lad_arr rfl rfl rfl (fun _ => rfl) (cw 4 (kN d)) (fun wx hS => St.rangeL hS 7 rfl 0 _ (by rw [List.drop_zero, List.take_of_length_le (Nat.le_refl _)])) Tryz.underlying32 rfl (by kernel_rfl) ?_
  try simp only [Go.Mv.clL]
  refine lad_arr rfl rfl rfl (fun _ => rfl) (cw 4 (kN ww)) (fun wx hS => St.rangeL hS 9 rfl 0 _ (by rw [List.drop_zero, List.take_of_length_le (Nat.le_refl _)])) Tryz.underlying32 rfl (by kernel_rfl) ?_
  try simp only [Go.Mv.clL]
  refine lad_arr rfl rfl rfl (fun _ => rfl) (cw 4 (kN e3)) (fun wx hS => St.rangeL hS 11 rfl 0 _ (by rw [List.drop_zero, List.take_of_length_le (Nat.le_refl _)])) Tryz.underlying32 rfl (by kernel_rfl) ?_
  try simp only [Go.Mv.clL]
  refine lad_arr rfl rfl rfl (fun _ => rfl) (cw 4 (kN v2)) (fun wx hS => St.rangeL hS 6 rfl 0 _ (by rw [List.drop_zero, List.take_of_length_le (Nat.le_refl _)])) Tryz.underlying32 rfl (by kernel_rfl) ?_
  try simp only [Go.Mv.clL]
  refine lad_arr rfl rfl rfl (fun _ => rfl) (cw 4 (kN v2)) (fun wx hS => St.rangeL hS 6 rfl 0 _ (by rw [List.drop_zero, List.take_of_length_le (Nat.le_refl _)])) Tryz.underlying32 rfl (by kernel_rfl) ?_
  try simp only [Go.Mv.clL]
  refine lad_arr rfl rfl rfl (fun _ => rfl) (cw 4 (kN e2)) (fun wx hS => St.rangeL hS 10 rfl 0 _ (by rw [List.drop_zero, List.take_of_length_le (Nat.le_refl _)])) Tryz.underlying32 rfl (by kernel_rfl) ?_
  try simp only [Go.Mv.clL]
  refine lad_call rfl rfl rfl Tryz.call33 (fun w hS hR => RF_any _) (fun _ => rfl) ?_
  try simp only [Go.Mv.clL]
  refine lad_call rfl rfl rfl Tryz.call33 (fun w hS hR => RF_any _) (fun _ => rfl) ?_
  try simp only [Go.Mv.clL]
  refine lad_call rfl rfl rfl Tryz.call33 (fun w hS hR => RF_any _) (fun _ => rfl) ?_
  try simp only [Go.Mv.clL]
  refine lad_call rfl rfl rfl Tryz.call33 (fun w hS hR => RF_any _) (fun _ => rfl) ?_
  try simp only [Go.Mv.clL]
  refine lad_call rfl rfl rfl Tryz.call35 (fun w hS hR => KMul d d t1 Ht1.out _) (fun _ => rfl) ?_
  try simp only [Go.Mv.clL]
  refine lad_call rfl rfl rfl Tryz.call35 (fun w hS hR => KMul t1 ww t2 Ht2.out _) (fun _ => rfl) ?_
  try simp only [Go.Mv.clL]
  refine lad_call rfl rfl rfl Tryz.call87 (fun w hS hR => KSub t2 e3 t3 Ht3.out _) (fun _ => rfl) ?_
  try simp only [Go.Mv.clL]
  refine lad_call rfl rfl rfl Tryz.call33 (fun w hS hR => RF_any _) (fun _ => rfl) ?_
  try simp only [Go.Mv.clL]
  refine lad_call rfl rfl rfl Tryz.call33 (fun w hS hR => RF_any _) (fun _ => rfl) ?_
  try simp only [Go.Mv.clL]
  refine lad_call rfl rfl rfl Tryz.call76 (fun w hS hR => KAdd v2 v2 t4 Ht4.out _) (fun _ => rfl) ?_
  try simp only [Go.Mv.clL]
  refine lad_call rfl rfl rfl Tryz.call35 (fun w hS hR => KMul t4 e2 t5 Ht5.out _) (fun _ => rfl) ?_
  try simp only [Go.Mv.clL]
  refine lad_call rfl rfl rfl Tryz.call87 (fun w hS hR => KSub t3 t5 t Ht.out _) (fun _ => rfl) ?_
  try simp only [Go.Mv.clL]
  refine lad_j List.mem_cons_self fun g15 => ?_
  simp only [upd, reduceIte]
  refine lad_end fun xq w24 st24 hR => ?_
  try dsimp only
  clear hR xq
  refine plan_m rfl rfl ?_
  refine wp_storeS st24 12 rfl rfl rfl rfl (by simp [cw_len]) (by kernel_rfl) (cw_one _ _) ?_
  intro w25 st25
  repeat (first | simp only [List.cons_append] at st25 | simp only [List.nil_append] at st25 | simp only [List.set_cons_succ] at st25 | simp only [List.set_cons_zero] at st25)
  clear st24
  try simp only [Act.put]
  refine plan_end ?_
  refine NoPanic.normal ?_
  go_wp2_with fail
  refine wp_region_noPanic ?_
  refine wp_region_lad st25 25 [.t 1, .t 2, .t 6, .t 9, .t 10, .t 12, .t 16, .t 17, .t 21, .t 22, .c 0, .c 3, .c 4, .c 5, .c 7, .c 8, .c 11, .c 13, .c 14, .c 15, .c 18, .c 19, .c 20, .c 23, .w 24] (.m 25 .nil) (by kernel_rfl) (by kernel_rfl) (fun _ _ _ _ _ h => h) ?_
  clear st25
  refine lad_arr rfl rfl rfl (fun _ => rfl) (cw 4 (kN ee)) (fun wx hS => St.rangeL hS 8 rfl 0 _ (by rw [List.drop_zero, List.take_of_length_le (Nat.le_refl _)])) Tryz.underlying32 rfl (by kernel_rfl) ?_
  try simp only [Go.Mv.clL]
  refine lad_arr rfl rfl rfl (fun _ => rfl) (cw 4 (kN t)) (fun wx hS => St.rangeL hS 12 rfl 0 _ (by rw [List.drop_zero, List.take_of_length_le (Nat.le_refl _)])) Tryz.underlying32 rfl (by kernel_rfl) ?_
  try simp only [Go.Mv.clL]
  refine lad_arr rfl rfl rfl (fun _ => rfl) (cw 4 (kN d)) (fun wx hS => St.rangeL hS 7 rfl 0 _ (by rw [List.drop_zero, List.take_of_length_le (Nat.le_refl _)])) Tryz.underlying32 rfl (by kernel_rfl) ?_
  try simp only [Go.Mv.clL]
  refine lad_arr rfl rfl rfl (fun _ => rfl) (cw 4 (kN v2)) (fun wx hS => St.rangeL hS 6 rfl 0 _ (by rw [List.drop_zero, List.take_of_length_le (Nat.le_refl _)])) Tryz.underlying32 rfl (by kernel_rfl) ?_
  try simp only [Go.Mv.clL]
  refine lad_arr rfl rfl rfl (fun _ => rfl) (cw 4 (kN e2)) (fun wx hS => St.rangeL hS 10 rfl 0 _ (by rw [List.drop_zero, List.take_of_length_le (Nat.le_refl _)])) Tryz.underlying32 rfl (by kernel_rfl) ?_
  try simp only [Go.Mv.clL]
  refine lad_arr rfl rfl rfl (fun _ => rfl) (cw 4 (kN t)) (fun wx hS => St.rangeL hS 12 rfl 0 _ (by rw [List.drop_zero, List.take_of_length_le (Nat.le_refl _)])) Tryz.underlying32 rfl (by kernel_rfl) ?_
  try simp only [Go.Mv.clL]
  refine lad_arr rfl rfl rfl (fun _ => rfl) (cw 4 (kN u2)) (fun wx hS => St.rangeL hS 5 rfl 0 _ (by rw [List.drop_zero, List.take_of_length_le (Nat.le_refl _)])) Tryz.underlying32 rfl (by kernel_rfl) ?_
  try simp only [Go.Mv.clL]
  refine lad_arr rfl rfl rfl (fun _ => rfl) (cw 4 (kN e3)) (fun wx hS => St.rangeL hS 11 rfl 0 _ (by rw [List.drop_zero, List.take_of_length_le (Nat.le_refl _)])) Tryz.underlying32 rfl (by kernel_rfl) ?_
  try simp only [Go.Mv.clL]
  refine lad_arr rfl rfl rfl (fun _ => rfl) (cw 4 (kN e3)) (fun wx hS => St.rangeL hS 11 rfl 0 _ (by rw [List.drop_zero, List.take_of_length_le (Nat.le_refl _)])) Tryz.underlying32 rfl (by kernel_rfl) ?_
  try simp only [Go.Mv.clL]
  refine lad_arr rfl rfl rfl (fun _ => rfl) (cw 4 (kN ww)) (fun wx hS => St.rangeL hS 9 rfl 0 _ (by rw [List.drop_zero, List.take_of_length_le (Nat.le_refl _)])) Tryz.underlying32 rfl (by kernel_rfl) ?_
  try simp only [Go.Mv.clL]
  refine lad_call rfl rfl rfl Tryz.call33 (fun w hS hR => RF_any _) (fun _ => rfl) ?_
  try simp only [Go.Mv.clL]
  refine lad_call rfl rfl rfl Tryz.call35 (fun w hS hR => KMul ee t X HX.out _) (fun _ => rfl) ?_
  try simp only [Go.Mv.clL]
  refine lad_call rfl rfl rfl Tryz.call33 (fun w hS hR => RF_any _) (fun _ => rfl) ?_
  try simp only [Go.Mv.clL]
  refine lad_call rfl rfl rfl Tryz.call33 (fun w hS hR => RF_any _) (fun _ => rfl) ?_
  try simp only [Go.Mv.clL]
  refine lad_call rfl rfl rfl Tryz.call33 (fun w hS hR => RF_any _) (fun _ => rfl) ?_
  try simp only [Go.Mv.clL]
  refine lad_call rfl rfl rfl Tryz.call33 (fun w hS hR => RF_any _) (fun _ => rfl) ?_
  try simp only [Go.Mv.clL]
  refine lad_call rfl rfl rfl Tryz.call35 (fun w hS hR => KMul v2 e2 s1 Hs1.out _) (fun _ => rfl) ?_
  try simp only [Go.Mv.clL]
  refine lad_call rfl rfl rfl Tryz.call87 (fun w hS hR => KSub s1 t s2 Hs2.out _) (fun _ => rfl) ?_
  try simp only [Go.Mv.clL]
  refine lad_call rfl rfl rfl Tryz.call35 (fun w hS hR => KMul d s2 s3 Hs3.out _) (fun _ => rfl) ?_
  try simp only [Go.Mv.clL]
  refine lad_call rfl rfl rfl Tryz.call33 (fun w hS hR => RF_any _) (fun _ => rfl) ?_
  try simp only [Go.Mv.clL]
  refine lad_call rfl rfl rfl Tryz.call35 (fun w hS hR => KMul u2 e3 s4 Hs4.out _) (fun _ => rfl) ?_
  try simp only [Go.Mv.clL]
  refine lad_call rfl rfl rfl Tryz.call87 (fun w hS hR => KSub s3 s4 Y HY.out _) (fun _ => rfl) ?_
  try simp only [Go.Mv.clL]
  refine lad_call rfl rfl rfl Tryz.call33 (fun w hS hR => RF_any _) (fun _ => rfl) ?_
  try simp only [Go.Mv.clL]
  refine lad_call rfl rfl rfl Tryz.call35 (fun w hS hR => KMul e3 ww Z HZ.out _) (fun _ => rfl) ?_
  try simp only [Go.Mv.clL]
  refine lad_w rfl rfl (fun _ => exec_build rfl _ (built_rp _ _ _)) ?_
  try simp only [Go.Mv.clL]
  refine lad_end fun xq w26 st26 hR => ?_
  try dsimp only
  clear hR xq
  refine plan_m rfl rfl ?_
  refine wp_storeS st26 2 rfl rfl rfl rfl (by simp [cw_len]) (by kernel_rfl) (pt_one _ _ _) ?_
  intro w27 st27
  try simp only [List.set_cons_zero, List.set_cons_succ] at st27
  clear st26
  try simp only [Act.put]
  refine plan_end ?_
  refine NoPanic.normal ?_
  have hr := st27.at 2 rfl
  have hfr := st27.fr
  clear st27
  go_wp2_with fail
  exact bodyPost_ret (results_st rfl rfl hr Tryz.underlying34 rfl (by kernel_rfl)) rfl ⟨rfl, hfr⟩
end Go.Proofs.YtdbgddngapminaaGreat

/- The reference's points as values: what its Plus, Neg, None answer. -/
namespace Go.Proofs.YtdbgddngapminaaGreat
open Go.RowKit Go.Mv Mvp Mvq
/-- a point of the reference's -/
structure RT where
  x : K
  y : K
  z : K
  on : onC (nm x y z)
def RT.pt (s : RT) : Pt := nm s.x s.y s.z
def RT.L (s : RT) : List Value := rpL s.x s.y s.z
theorem rpL_len (x y z : K) : (rpL x y z).length = 12 := by simp [rpL, cw_len]
theorem RT.len (s : RT) : s.L.length = 12 := rpL_len _ _ _
theorem RT.one (s : RT) : ∀ v ∈ s.L, v.oneCell' = true := pt_one _ _ _
theorem RT.onP (s : RT) : onC s.pt := s.on
theorem rdouble_is (x y z : K) (ho : onC (nm x y z)) (hz : z ≠ 0) : ∃ X Y Z, nm X Y Z = padd (nm x y z) (nm x y z) ∧ ∀ wx, Calls Tryz.prog 86 #[rpV x y z] wx fun e w' => e = .returned (rpV X Y Z) ∧ Fr Nob wx w' := by
  refine ⟨_, _, _, ?_, fun wx => Rdouble_v x y z _ _ _ _ _ _ _ _ _ _ _ _ _ _ _ _ _ _ _ rfl rfl rfl rfl rfl rfl rfl rfl rfl rfl rfl rfl rfl rfl rfl rfl rfl rfl rfl wx⟩
  exact rk_double ho hz (x * x) _ _ _ _ _ rfl (by grind -lia -linarith) (by grind -lia -linarith) rfl rfl (by grind -lia -linarith)
theorem rplus_is (x1 y1 z1 x2 y2 z2 : K) (ho1 : onC (nm x1 y1 z1)) (ho2 : onC (nm x2 y2 z2)) : ∃ X Y Z, nm X Y Z = padd (nm x1 y1 z1) (nm x2 y2 z2) ∧ ∀ wx, Calls Tryz.prog 40 #[rpV x1 y1 z1, rpV x2 y2 z2] wx fun e w' => e = .returned (rpV X Y Z) ∧ Fr Nob wx w' := by
  by_cases hz1 : z1 = 0
  · exact ⟨x2, y2, z2, by rw [nm_z hz1]; rfl, fun wx => RPlus_none1 x1 y1 z1 x2 y2 z2 (by simpa using hz1) wx⟩
  · by_cases hz2 : z2 = 0
    · exact ⟨x1, y1, z1, by rw [nm_z hz2, padd_zero], fun wx => RPlus_none2 x1 y1 z1 x2 y2 z2 (by simpa using hz1) (by simpa using hz2) wx⟩
    · by_cases hv : x2 * z1 = x1 * z2
      · have hs := rk_same ho1 ho2 hz1 hz2 hv
        by_cases hu : y2 * z1 = y1 * z2
        · obtain ⟨X, Y, Z, h1, h2⟩ := rdouble_is x1 y1 z1 ho1 hz1
          refine ⟨X, Y, Z, by rw [h1, hs.1 hu], fun wx => RPlus_dbl x1 y1 z1 x2 y2 z2 (by simpa using hz1) (by simpa using hz2) _ _ _ _ rfl rfl rfl rfl (by simpa using hv) (by simpa using hu) (by simpa using hs.2.2) X Y Z h2 wx⟩
        · exact ⟨0, 1, 0, by rw [nm_z rfl, hs.2.1 hu], fun wx => RPlus_opp x1 y1 z1 x2 y2 z2 (by simpa using hz1) (by simpa using hz2) _ _ _ _ rfl rfl rfl rfl (by simpa using hv) (by simpa using hu) wx⟩
      · refine ⟨_, _, _, ?_, fun wx => RPlus_v x1 y1 z1 x2 y2 z2 (by simpa using hz1) (by simpa using hz2) _ _ _ _ _ _ _ _ _ _ _ _ _ _ _ _ _ _ _ _ _ _ rfl rfl rfl rfl rfl rfl rfl rfl rfl rfl rfl rfl rfl rfl rfl rfl rfl rfl rfl rfl rfl rfl (by simpa using hv) wx⟩
        exact rk_plus ho1 ho2 hz1 hz2 (y2 * z1) (x2 * z1) (y1 * z2) (x1 * z2) _ _ _ _ _ _ rfl rfl rfl rfl rfl rfl (fun h => hv (by
          have h2 : x2 * z1 - x1 * z2 + x1 * z2 = 0 + x1 * z2 := by rw [h]
          grind -lia -linarith)) rfl rfl rfl (by grind -lia -linarith)
theorem RAdd_ex (s t : RT) : ∃ r : RT, r.pt = padd s.pt t.pt ∧ ∀ wx, Calls Tryz.prog 40 #[.agg s.L.toArray, .agg t.L.toArray] wx fun e w' => e = .returned (.agg r.L.toArray) ∧ Fr Nob wx w' := by
  obtain ⟨X, Y, Z, h1, h2⟩ := rplus_is s.x s.y s.z t.x t.y t.z s.on t.on
  exact ⟨⟨X, Y, Z, by rw [h1]; exact padd_on s.on t.on⟩, h1, h2⟩
noncomputable def addR (s t : RT) : RT := Classical.choose (RAdd_ex s t)
theorem addR_pt (s t : RT) : (addR s t).pt = padd s.pt t.pt := (Classical.choose_spec (RAdd_ex s t)).1
theorem RPlus_c (s t : RT) (w : World) : Calls Tryz.prog 40 #[.agg s.L.toArray, .agg t.L.toArray] w fun e w' => e = .returned (.agg (addR s t).L.toArray) ∧ Fr Nob w w' := (Classical.choose_spec (RAdd_ex s t)).2 w
def noR : RT := ⟨0, 1, 0, by rw [nm_z rfl]; trivial⟩
theorem noR_pt : noR.pt = .O := nm_z rfl
theorem RNone_c (w : World) : Calls Tryz.prog 54 #[] w fun e w' => e = .returned (.agg noR.L.toArray) ∧ Fr Nob w w' := RNone_any w
def RT.isO (s : RT) : Bool := decide (s.z = 0)
theorem RT.isO_t {s : RT} (h : s.isO = true) : s.pt = .O := nm_z (by simpa [RT.isO] using h)
theorem nm_one (x y : K) : nm x y 1 = .A x y := nm_is (by decide) (by grind -lia -linarith) (by grind -lia -linarith)
def affR (x y : K) (h : onC (.A x y)) : RT := ⟨x, y, 1, by rw [nm_one]; exact h⟩
theorem affR_pt (x y : K) (h : onC (.A x y)) : (affR x y h).pt = .A x y := nm_one x y
theorem rtOk_mod (p x : Nat) : rtOk p (x % p) = rtOk p x := by
  unfold rtOk rtN
  rw [Nat.mul_mod, Nat.pow_mod, Nat.mod_mod, ← Nat.pow_mod, ← Nat.mul_mod]
theorem rtV_mod (x : Nat) : kc (rtV fP (x % fP)) = kc (rtV fP x) := by
  have h : rtN fP (x % fP) % fP = rtN fP x % fP := by unfold rtN; rw [← Nat.pow_mod]
  have hk : kc (rtN fP (x % fP)) = kc (rtN fP x) := by rw [← kc_mod, h, kc_mod]
  unfold rtV
  rw [h]
  split
  · rfl
  · exact hk
/-- rounds of Times: what out is behind k of them -/
noncomputable def tmsR (n : Nat) (s : RT) : Nat → RT
  | 0 => noR
  | k + 1 => if n / 2 ^ (255 - k) % 2 = 1 then addR (addR (tmsR n s k) (tmsR n s k)) s else addR (tmsR n s k) (tmsR n s k)
theorem tmsR_succ (n : Nat) (s : RT) (k : Nat) : tmsR n s (k + 1) = if n / 2 ^ (255 - k) % 2 = 1 then addR (addR (tmsR n s k) (tmsR n s k)) s else addR (tmsR n s k) (tmsR n s k) := rfl
theorem tmsR_zero (n : Nat) (s : RT) : tmsR n s 0 = noR := rfl
theorem tmsR_pt (n : Nat) (hn : n < 2 ^ 256) (s : RT) : ∀ k, k ≤ 256 → (tmsR n s k).pt = pmul (n / 2 ^ (256 - k)) s.pt
  | 0, _ => by
    show noR.pt = _
    rw [noR_pt, Nat.sub_zero, Nat.div_eq_of_lt hn]
    rfl
  | k + 1, h => by
    have ih := tmsR_pt n hn s k (by omega)
    have hb := pmul_bit s.on n (255 - k)
    rw [show 256 - (k + 1) = 255 - k by omega]
    rw [show 256 - k = 255 - k + 1 by omega] at ih
    show _ = pmul (n / 2 ^ (255 - k)) (nm s.x s.y s.z)
    rw [hb]
    show (if n / 2 ^ (255 - k) % 2 = 1 then addR (addR (tmsR n s k) (tmsR n s k)) s else addR (tmsR n s k) (tmsR n s k)).pt = _
    by_cases h1 : n / 2 ^ (255 - k) % 2 = 1
    · rw [if_pos h1, if_pos h1, addR_pt, addR_pt, ih]; rfl
    · rw [if_neg h1, if_neg h1, addR_pt, ih, padd_zero]; rfl
noncomputable def timesR (n : Nat) (s : RT) : RT := tmsR n s 256
theorem timesR_pt (n : Nat) (hn : n < 2 ^ 256) (s : RT) : (timesR n s).pt = pmul n s.pt := by
  have := tmsR_pt n hn s 256 (Nat.le_refl _)
  rwa [Nat.sub_self, Nat.pow_zero, Nat.div_one] at this
end Go.Proofs.YtdbgddngapminaaGreat

/- The reference's points: Times, at, G. -/
namespace Go.Proofs.YtdbgddngapminaaGreat
open Go.RowKit Go.Mv Mvp Mvq
attribute [local irreducible] limbs lw mix cw cSub cAdd cMul foldC valFrom beN laid be32 powm montT mstep elN mdL numB rtV rtOk kN kc kinv wrPt addR noR timesR tmsR RT.L
set_option maxHeartbeats 16000000 in
set_option maxRecDepth 1000000 in
theorem RTimes_c (n : Nat) (s : RT) (w : World) : Calls Tryz.prog 41 #[i4 n, .agg s.L.toArray] w fun e w' => e = .returned (.agg (timesR n s).L.toArray) ∧ Fr Nob w w' := by
  unfold timesR
  have st0 := St.start Nob w
  go_enter Tryz.func41, Tryz.ntmps41
  go_wp2_with (with_reducible refine wl_stop (o := ⟨some 2, _, _, _, _, _⟩) ?_)
  refine wl_boxS st0 rfl rfl rfl (cw 4 n) rfl ?_
  intro g2 w1 st1
  clear st0
  go_wp2_with (with_reducible refine wl_stop (o := ⟨some 3, _, _, _, _, _⟩) ?_)
  refine wl_boxS st1 rfl rfl rfl (s.L) rfl ?_
  intro g3 w2 st2
  clear st1
  go_wp2_with (with_reducible refine wl_stop (o := ⟨some 4, _, _, _, _, _⟩) ?_)
  refine wl_allocS st2 rfl rfl (z := .agg #[.int .u64 0, .int .u64 0, .int .u64 0, .int .u64 0, .int .u64 0, .int .u64 0, .int .u64 0, .int .u64 0, .int .u64 0, .int .u64 0, .int .u64 0, .int .u64 0]) (by kernel_rfl) (cw 12 0) (by rw [cw_zero]; rfl) ?_
  intro g4 w3 st3
  clear st2
  go_wp2_with fail
  refine (RNone_c _).mono ?_
  rintro e' w4 ⟨rfl, hf4⟩
  have st4 := st3.keep hf4
  clear st3 hf4
  go_wp2_with (with_reducible refine wl_stop (o := ⟨some 5, _, _, _, _, _⟩) ?_)
  refine wl_allocS st4 rfl rfl (z := .agg #[.int .u64 0, .int .u64 0, .int .u64 0, .int .u64 0, .int .u64 0, .int .u64 0, .int .u64 0, .int .u64 0, .int .u64 0, .int .u64 0, .int .u64 0, .int .u64 0]) (by kernel_rfl) (cw 12 0) (by rw [cw_zero]; rfl) ?_
  intro g5 w5 st5
  clear st4
  go_wp2_with (with_reducible refine wl_stop (o := ⟨none, _, _, _, _, _⟩) ?_)
  refine wl_storeS st5 3 rfl rfl rfl rfl rfl (by first | (simp [cw_len]; done) | (simp [RT.len]; done) | (simp [cw_len, RT.len]; done) | simp [cw_len, RT.len]) (by kernel_rfl) (RT.one _) ?_
  intro w6 st6
  clear st5
  go_wp2
  go_loopw [6] (fun i wr => ∃ k : Nat, k ≤ 256 ∧ i = .int .i64 (255 - (k : Int)) ∧ St Nob w wr [(g2, cw 4 n, 32), (g3, s.L, 34), (g4, cw 12 0, 34), (g5, (tmsR n s k).L, 34)]) (fun i _ => (intOf i + 1).toNat)
  case atStart => exact ⟨0, by omega, rfl, by rw [tmsR_zero]; exact st6⟩
  case round =>
    obtain ⟨k, hk, rfl, st⟩ := hrel
    clear st6
    rcases Nat.lt_or_ge k 256 with hk2 | hk2
    · have hge : (0 : Int) ≤ 255 - (k : Int) := by omega
      have hrec := tmsR_succ n s k
      generalize hT' : tmsR n s (k + 1) = T' at *
      have HT' := Lib.hid hT'
      clear hT'
      generalize tmsR n s k = T at *
      have hbit := fun wx => RBit_any n (255 - k) wx (by omega)
      rw [show (((255 - k : Nat)) : Int) = 255 - (k : Int) by omega] at hbit
      have hb2 : n / 2 ^ (255 - k) % 2 < 2 := Nat.mod_lt _ (by decide)
      generalize n / 2 ^ (255 - k) % 2 = b at *
      have HREC := Lib.hid hrec
      have HBIT := Lib.hid hbit
      clear hrec hbit
      go_wp2_with (with_reducible refine wl_stop (o := ⟨some 12, _, _, _, _, _⟩) ?_)
      refine wl_loadSt st 3 rfl rfl rfl Tryz.underlying34 rfl rfl (by kernel_rfl) ?_
      go_wp2_with (with_reducible refine wl_stop (o := ⟨some 13, _, _, _, _, _⟩) ?_)
      refine wl_loadSt st 3 rfl rfl rfl Tryz.underlying34 rfl rfl (by kernel_rfl) ?_
      go_wp2_with fail
      refine (RPlus_c T T _).mono ?_
      rintro e' w7 ⟨rfl, hf7⟩
      have st7 := st.keep hf7
      clear st hf7
      go_wp2_with (with_reducible refine wl_stop (o := ⟨none, _, _, _, _, _⟩) ?_)
      refine wl_storeS st7 3 rfl rfl rfl rfl rfl (by simp [RT.len]) (by kernel_rfl) (RT.one _) ?_
      intro w8 st8
      clear st7
      go_wp2_with (with_reducible refine wl_stop (o := ⟨some 15, _, _, _, _, _⟩) ?_)
      refine wl_loadS st8 0 rfl rfl rfl Tryz.underlying32 rfl (by kernel_rfl) ?_
      go_wp2_with fail
      refine (HBIT.out _).mono ?_
      rintro e' w9 ⟨rfl, hf9⟩
      have st9 := st8.keep hf9
      clear st8 hf9
      obtain rfl | rfl : b = 0 ∨ b = 1 := by omega
      · have HE := Lib.hid (show T' = addR T T by rw [HREC.out]; rfl)
        clear hb2
        go_wp2
        go_roundw
        case rel => exact ⟨k + 1, by omega, by go_num, by rw [HT'.out, HE.out]; exact st9⟩
        case measure => simp [intOf]; omega
      · have HE := Lib.hid (show T' = addR (addR T T) s by rw [HREC.out]; rfl)
        clear hb2
        go_wp2_with (with_reducible refine wl_stop (o := ⟨some 19, _, _, _, _, _⟩) ?_)
        refine wl_loadSt st9 3 rfl rfl rfl Tryz.underlying34 rfl rfl (by kernel_rfl) ?_
        go_wp2_with (with_reducible refine wl_stop (o := ⟨some 20, _, _, _, _, _⟩) ?_)
        refine wl_loadSt st9 1 rfl rfl rfl Tryz.underlying34 rfl rfl (by kernel_rfl) ?_
        go_wp2_with fail
        refine (RPlus_c (addR T T) s _).mono ?_
        rintro e' w10 ⟨rfl, hf10⟩
        have st10 := st9.keep hf10
        clear st9 hf10
        go_wp2_with (with_reducible refine wl_stop (o := ⟨none, _, _, _, _, _⟩) ?_)
        refine wl_storeS st10 3 rfl rfl rfl rfl rfl (by simp [RT.len]) (by kernel_rfl) (RT.one _) ?_
        intro w11 st11
        clear st10
        go_wp2
        go_roundw
        case rel => exact ⟨k + 1, by omega, by go_num, by rw [HT'.out, HE.out]; exact st11⟩
        case measure => simp [intOf]; omega
    · have hk3 : k = 256 := by omega
      subst hk3
      have hge : ¬ ((0 : Int) ≤ 255 - ((256 : Nat) : Int)) := by omega
      go_wp2_with (with_reducible refine wl_stop (o := ⟨some 22, _, _, _, _, _⟩) ?_)
      refine wl_loadSt st 3 rfl rfl rfl Tryz.underlying34 rfl rfl (by kernel_rfl) ?_
      go_wp2_with (with_reducible refine wl_stop (o := ⟨none, _, _, _, _, _⟩) ?_)
      refine wl_storeS st 2 rfl rfl rfl rfl rfl (by first | (simp [cw_len]; done) | (simp [RT.len]; done) | (simp [cw_len, RT.len]; done) | simp [cw_len, RT.len]) (by kernel_rfl) (RT.one _) ?_
      intro w7 st7
      clear st
      have hr := st7.at 2 rfl
      have hfr := st7.fr
      clear st7
      go_wp2_with fail
      exact bodyPost_ret (results_st rfl rfl hr Tryz.underlying34 rfl (by kernel_rfl)) rfl ⟨rfl, hfr⟩

set_option maxHeartbeats 16000000 in
set_option maxRecDepth 1000000 in
theorem Rat_t (x : K) (xx x3 cv : K) (exx : x * x = xx) (ex3 : xx * x = x3) (ecv : x3 + 7 = cv) (hr : rtOk fP (kN cv) = true) (w : World) : Calls Tryz.prog 31 #[i4 (kN x)] w fun e w' => e = .returned (.tuple #[rpV x (kc (rtV fP (kN cv))) 1, .bool true]) ∧ Fr Nob w w' := by
  have HR := Lib.hid hr
  clear hr
  have Hxx := Lib.hid exx
  have Hx3 := Lib.hid ex3
  have Hcv := Lib.hid ecv
  clear exx ex3 ecv
  unfold rpV rpL
  have st0 := St.start Nob w
  go_enter Tryz.func31, Tryz.ntmps31
  go_wp2_with (with_reducible refine wl_stop (o := ⟨some 1, _, _, _, _, _⟩) ?_)
  refine wl_boxS st0 rfl rfl rfl (cw 4 (kN x)) rfl ?_
  intro g1 w1 st1
  clear st0
  go_wp2_with (with_reducible refine wl_stop (o := ⟨some 2, _, _, _, _, _⟩) ?_)
  refine wl_allocS st1 rfl rfl (z := .agg #[.int .u64 0, .int .u64 0, .int .u64 0, .int .u64 0, .int .u64 0, .int .u64 0, .int .u64 0, .int .u64 0, .int .u64 0, .int .u64 0, .int .u64 0, .int .u64 0]) (by kernel_rfl) (cw 12 0) (by rw [cw_zero]; rfl) ?_
  intro g2 w2 st2
  clear st1
  go_wp2_with fail
  refine wp_region_noPanic ?_
  refine wp_region_lad st2 17 [.o 15, .t 4, .t 5, .t 7, .c 0, .c 1, .c 2, .c 3, .c 6, .c 8, .c 9, .c 10, .c 11, .w 12, .w 13, .w 14, .j 15] (.r 16 (.m 17 .nil)) (by kernel_rfl) (by kernel_rfl) (fun _ _ _ _ _ h => h) ?_
  clear st2
  refine lad_o rfl rfl rfl z_rn (cw 4 0) rfl ?_
  try simp only [Go.Mv.clL]
  refine lad_arr rfl rfl rfl (fun _ => rfl) (cw 4 (kN x)) (fun wx hS => St.rangeL hS 0 rfl 0 _ (by rw [List.drop_zero, List.take_of_length_le (Nat.le_refl _)])) Tryz.underlying32 rfl (by kernel_rfl) ?_
  try simp only [Go.Mv.clL]
  refine lad_arr rfl rfl rfl (fun _ => rfl) (cw 4 (kN x)) (fun wx hS => St.rangeL hS 0 rfl 0 _ (by rw [List.drop_zero, List.take_of_length_le (Nat.le_refl _)])) Tryz.underlying32 rfl (by kernel_rfl) ?_
  try simp only [Go.Mv.clL]
  refine lad_arr rfl rfl rfl (fun _ => rfl) (cw 4 (kN x)) (fun wx hS => St.rangeL hS 0 rfl 0 _ (by rw [List.drop_zero, List.take_of_length_le (Nat.le_refl _)])) Tryz.underlying32 rfl (by kernel_rfl) ?_
  try simp only [Go.Mv.clL]
  refine lad_call rfl rfl rfl Tryz.call33 (fun w hS hR => RF_any _) (fun _ => rfl) ?_
  try simp only [Go.Mv.clL]
  refine lad_call rfl rfl rfl Tryz.call33 (fun w hS hR => RF_any _) (fun _ => rfl) ?_
  try simp only [Go.Mv.clL]
  refine lad_call rfl rfl rfl Tryz.call33 (fun w hS hR => RF_any _) (fun _ => rfl) ?_
  try simp only [Go.Mv.clL]
  refine lad_call rfl rfl rfl Tryz.call33 (fun w hS hR => RF_any _) (fun _ => rfl) ?_
  try simp only [Go.Mv.clL]
  refine lad_call rfl rfl rfl Tryz.call35 (fun w hS hR => KMul x x xx Hxx.out _) (fun _ => rfl) ?_
  try simp only [Go.Mv.clL]
  refine lad_call rfl rfl rfl Tryz.call35 (fun w hS hR => KMul xx x x3 Hx3.out _) (fun _ => rfl) ?_
  try simp only [Go.Mv.clL]
  refine lad_call rfl rfl rfl Tryz.call77 (fun w hS hR => KSmall7 _) (fun _ => rfl) ?_
  try simp only [Go.Mv.clL]
  refine lad_call rfl rfl rfl Tryz.call76 (fun w hS hR => KAdd x3 7 cv Hcv.out _) (fun _ => rfl) ?_
  try simp only [Go.Mv.clL]
  refine lad_call rfl rfl rfl Tryz.call75 (fun w hS hR => KSqrt_t (kN cv) (kN_lt _) HR.out _) (fun _ => rfl) ?_
  try simp only [Go.Mv.clL]
  iterate 3 (refine lad_w (v := ?_) rfl rfl (fun xq wx => ?_) ?_; rotate_left 1; · (go_simp; with_reducible rfl); try simp only [Go.Mv.clL])
  refine lad_j List.mem_cons_self fun g4 => ?_
  simp only [upd, reduceIte]
  refine lad_end fun xq w3 st3 hR => ?_
  try dsimp only
  clear hR xq
  refine plan_r rfl rfl ?_
  refine wp_storeS st3 2 rfl rfl rfl rfl (by simp [cw_len]) (by kernel_rfl) (cw_one _ _) ?_
  intro w4 st4
  repeat (first | simp only [List.cons_append] at st4 | simp only [List.nil_append] at st4 | simp only [List.set_cons_succ] at st4 | simp only [List.set_cons_zero] at st4)
  clear st3
  refine ⟨by first | exact st4 | exact St.less st4 (by simp), ?_⟩
  try simp only [Act.put]
  refine plan_m rfl rfl ?_
  go_simp
  try simp only [Go.Mv.clL]
  refine plan_end ?_
  refine NoPanic.normal ?_
  go_wp2_with fail
  refine wp_region_noPanic ?_
  refine wp_region_lad st4 5 [.t 0, .t 1, .w 4, .c 2, .w 3] (.m 5 (.w 6 .nil)) (by kernel_rfl) (by kernel_rfl) (fun _ _ _ _ _ h => h) ?_
  clear st4
  refine lad_arr rfl rfl rfl (fun _ => rfl) (cw 4 (kN x)) (fun wx hS => St.rangeL hS 0 rfl 0 _ (by rw [List.drop_zero, List.take_of_length_le (Nat.le_refl _)])) Tryz.underlying32 rfl (by kernel_rfl) ?_
  try simp only [Go.Mv.clL]
  refine lad_arr rfl rfl rfl (fun _ => rfl) (cw 4 (kN (kc (rtV fP (kN cv))))) (fun wx hS => St.rangeL hS 2 rfl 0 _ (by rw [List.drop_zero, List.take_of_length_le (Nat.le_refl _)])) Tryz.underlying32 rfl (by kernel_rfl) ?_
  try simp only [Go.Mv.clL]
  refine lad_w (v := ?_) rfl rfl (fun xq wx => ?_) ?_; rotate_left 1; · (go_simp; with_reducible rfl)
  try simp only [Go.Mv.clL]
  refine lad_call rfl rfl rfl Tryz.call77 (fun w hS hR => KSmall1 _) (fun _ => rfl) ?_
  try simp only [Go.Mv.clL]
  refine lad_w rfl rfl (fun _ => exec_build rfl _ (built_rp _ _ _)) ?_
  try simp only [Go.Mv.clL]
  refine lad_end fun xq w5 st5 hR => ?_
  try dsimp only
  clear hR xq
  refine plan_m rfl rfl ?_
  refine wp_storeS st5 1 rfl rfl rfl rfl (by simp [cw_len]) (by kernel_rfl) (pt_one _ _ _) ?_
  intro w6 st6
  try simp only [List.set_cons_zero, List.set_cons_succ] at st6
  clear st5
  try simp only [Act.put]
  refine plan_w (v := ?_) rfl rfl (fun wx => ?_) ?_; rotate_left 1; · (go_simp; with_reducible rfl)
  try simp only [Go.Mv.clL]
  refine plan_end ?_
  refine NoPanic.normal ?_
  have hr := st6.at 1 rfl
  have hfr := st6.fr
  clear st6
  go_wp2_with fail
  exact bodyPost_ret (results_st2 rfl rfl hr Tryz.underlying34 rfl (by kernel_rfl) rfl) rfl ⟨rfl, hfr⟩

set_option maxHeartbeats 16000000 in
set_option maxRecDepth 1000000 in
theorem Rat_f (x : K) (xx x3 cv : K) (exx : x * x = xx) (ex3 : xx * x = x3) (ecv : x3 + 7 = cv) (hr : rtOk fP (kN cv) = false) (w : World) : Calls Tryz.prog 31 #[i4 (kN x)] w fun e w' => e = .returned (.tuple #[rpV x (0) 1, .bool false]) ∧ Fr Nob w w' := by
  have HR := Lib.hid hr
  clear hr
  have Hxx := Lib.hid exx
  have Hx3 := Lib.hid ex3
  have Hcv := Lib.hid ecv
  clear exx ex3 ecv
  unfold rpV rpL
  have st0 := St.start Nob w
  go_enter Tryz.func31, Tryz.ntmps31
  go_wp2_with (with_reducible refine wl_stop (o := ⟨some 1, _, _, _, _, _⟩) ?_)
  refine wl_boxS st0 rfl rfl rfl (cw 4 (kN x)) rfl ?_
  intro g1 w1 st1
  clear st0
  go_wp2_with (with_reducible refine wl_stop (o := ⟨some 2, _, _, _, _, _⟩) ?_)
  refine wl_allocS st1 rfl rfl (z := .agg #[.int .u64 0, .int .u64 0, .int .u64 0, .int .u64 0, .int .u64 0, .int .u64 0, .int .u64 0, .int .u64 0, .int .u64 0, .int .u64 0, .int .u64 0, .int .u64 0]) (by kernel_rfl) (cw 12 0) (by rw [cw_zero]; rfl) ?_
  intro g2 w2 st2
  clear st1
  go_wp2_with fail
  refine wp_region_noPanic ?_
  refine wp_region_lad st2 17 [.o 15, .t 4, .t 5, .t 7, .c 0, .c 1, .c 2, .c 3, .c 6, .c 8, .c 9, .c 10, .c 11, .w 12, .w 13, .w 14, .j 15] (.r 16 (.m 17 .nil)) (by kernel_rfl) (by kernel_rfl) (fun _ _ _ _ _ h => h) ?_
  clear st2
  refine lad_o rfl rfl rfl z_rn (cw 4 0) rfl ?_
  try simp only [Go.Mv.clL]
  refine lad_arr rfl rfl rfl (fun _ => rfl) (cw 4 (kN x)) (fun wx hS => St.rangeL hS 0 rfl 0 _ (by rw [List.drop_zero, List.take_of_length_le (Nat.le_refl _)])) Tryz.underlying32 rfl (by kernel_rfl) ?_
  try simp only [Go.Mv.clL]
  refine lad_arr rfl rfl rfl (fun _ => rfl) (cw 4 (kN x)) (fun wx hS => St.rangeL hS 0 rfl 0 _ (by rw [List.drop_zero, List.take_of_length_le (Nat.le_refl _)])) Tryz.underlying32 rfl (by kernel_rfl) ?_
  try simp only [Go.Mv.clL]
  refine lad_arr rfl rfl rfl (fun _ => rfl) (cw 4 (kN x)) (fun wx hS => St.rangeL hS 0 rfl 0 _ (by rw [List.drop_zero, List.take_of_length_le (Nat.le_refl _)])) Tryz.underlying32 rfl (by kernel_rfl) ?_
  try simp only [Go.Mv.clL]
  refine lad_call rfl rfl rfl Tryz.call33 (fun w hS hR => RF_any _) (fun _ => rfl) ?_
  try simp only [Go.Mv.clL]
  refine lad_call rfl rfl rfl Tryz.call33 (fun w hS hR => RF_any _) (fun _ => rfl) ?_
  try simp only [Go.Mv.clL]
  refine lad_call rfl rfl rfl Tryz.call33 (fun w hS hR => RF_any _) (fun _ => rfl) ?_
  try simp only [Go.Mv.clL]
  refine lad_call rfl rfl rfl Tryz.call33 (fun w hS hR => RF_any _) (fun _ => rfl) ?_
  try simp only [Go.Mv.clL]
  refine lad_call rfl rfl rfl Tryz.call35 (fun w hS hR => KMul x x xx Hxx.out _) (fun _ => rfl) ?_
  try simp only [Go.Mv.clL]
  refine lad_call rfl rfl rfl Tryz.call35 (fun w hS hR => KMul xx x x3 Hx3.out _) (fun _ => rfl) ?_
  try simp only [Go.Mv.clL]
  refine lad_call rfl rfl rfl Tryz.call77 (fun w hS hR => KSmall7 _) (fun _ => rfl) ?_
  try simp only [Go.Mv.clL]
  refine lad_call rfl rfl rfl Tryz.call76 (fun w hS hR => KAdd x3 7 cv Hcv.out _) (fun _ => rfl) ?_
  try simp only [Go.Mv.clL]
  refine lad_call rfl rfl rfl Tryz.call75 (fun w hS hR => KSqrt_f (kN cv) (kN_lt _) HR.out _) (fun _ => rfl) ?_
  try simp only [Go.Mv.clL]
  iterate 3 (refine lad_w (v := ?_) rfl rfl (fun xq wx => ?_) ?_; rotate_left 1; · (go_simp; with_reducible rfl); try simp only [Go.Mv.clL])
  refine lad_j List.mem_cons_self fun g4 => ?_
  simp only [upd, reduceIte]
  refine lad_end fun xq w3 st3 hR => ?_
  try dsimp only
  clear hR xq
  refine plan_r rfl rfl ?_
  refine wp_storeS st3 2 rfl rfl rfl rfl (by simp [cw_len]) (by kernel_rfl) (cw_one _ _) ?_
  intro w4 st4
  repeat (first | simp only [List.cons_append] at st4 | simp only [List.nil_append] at st4 | simp only [List.set_cons_succ] at st4 | simp only [List.set_cons_zero] at st4)
  clear st3
  refine ⟨by first | exact st4 | exact St.less st4 (by simp), ?_⟩
  try simp only [Act.put]
  refine plan_m rfl rfl ?_
  go_simp
  try simp only [Go.Mv.clL]
  refine plan_end ?_
  refine NoPanic.normal ?_
  go_wp2_with fail
  refine wp_region_noPanic ?_
  refine wp_region_lad st4 5 [.t 0, .t 1, .w 4, .c 2, .w 3] (.m 5 (.w 6 .nil)) (by kernel_rfl) (by kernel_rfl) (fun _ _ _ _ _ h => h) ?_
  clear st4
  refine lad_arr rfl rfl rfl (fun _ => rfl) (cw 4 (kN x)) (fun wx hS => St.rangeL hS 0 rfl 0 _ (by rw [List.drop_zero, List.take_of_length_le (Nat.le_refl _)])) Tryz.underlying32 rfl (by kernel_rfl) ?_
  try simp only [Go.Mv.clL]
  refine lad_arr rfl rfl rfl (fun _ => rfl) (cw 4 (kN 0)) (fun wx hS => St.rangeL hS 2 rfl 0 _ (by rw [List.drop_zero, List.take_of_length_le (Nat.le_refl _)])) Tryz.underlying32 rfl (by kernel_rfl) ?_
  try simp only [Go.Mv.clL]
  refine lad_w (v := ?_) rfl rfl (fun xq wx => ?_) ?_; rotate_left 1; · (go_simp; with_reducible rfl)
  try simp only [Go.Mv.clL]
  refine lad_call rfl rfl rfl Tryz.call77 (fun w hS hR => KSmall1 _) (fun _ => rfl) ?_
  try simp only [Go.Mv.clL]
  refine lad_w rfl rfl (fun _ => exec_build rfl _ (built_rp _ _ _)) ?_
  try simp only [Go.Mv.clL]
  refine lad_end fun xq w5 st5 hR => ?_
  try dsimp only
  clear hR xq
  refine plan_m rfl rfl ?_
  refine wp_storeS st5 1 rfl rfl rfl rfl (by simp [cw_len]) (by kernel_rfl) (pt_one _ _ _) ?_
  intro w6 st6
  try simp only [List.set_cons_zero, List.set_cons_succ] at st6
  clear st5
  try simp only [Act.put]
  refine plan_w (v := ?_) rfl rfl (fun wx => ?_) ?_; rotate_left 1; · (go_simp; with_reducible rfl)
  try simp only [Go.Mv.clL]
  refine plan_end ?_
  refine NoPanic.normal ?_
  have hr := st6.at 1 rfl
  have hfr := st6.fr
  clear st6
  go_wp2_with fail
  exact bodyPost_ret (results_st2 rfl rfl hr Tryz.underlying34 rfl (by kernel_rfl) rfl) rfl ⟨rfl, hfr⟩
end Go.Proofs.YtdbgddngapminaaGreat

/- More makers of one block for the steps of a drawn region: slice literals, boxes; operations that only yield a value. -/
namespace Go.Mv
open Go.RowKit
section
variable {P : Program} {Q : Exit → Act → World → Prop} {Sx : World → Prop} {S : Nat → Prop} {w0 : World} {tl : Pl} {l : List Oper} {i : Nat} {s : List LS} {Γ : List Flt} {BL : List Blk} {R : World → Prop} {A : (Nat → Value) → Act} {o : Oper}
theorem parts_arr {parts : Array (Nat × Operand)} {ρ : Operand → Value} {M : List (Nat × Value)} (h : (parts.toList.map fun p => (p.1, ρ p.2)) = M) : (parts.map fun (i, x) => (i, ρ x)) = M.toArray := by
  apply Array.toList_inj.1
  rw [Array.toList_map, ← h]
theorem mk_rows {t e : TypeId} {k : Nat} {M : List (Nat × Value)} (hu : P.underlying t = some (.slice e)) {z : Value} {sz by_ : Nat} (hi0 : (P.info? e).map (fun i => (i.zero, i.size, i.bytes)) = some (some z, sz, by_)) (vs : List Value) (hp : M = (vs.zipIdx 0).map fun x => (x.2, x.1))
    (hv : ∀ v ∈ vs, v.cells.size = sz) (hk : vs.length = k) (L : List Value) (hL : (vs.flatMap fun v => v.cells.toList) = L) (hk0 : 0 < k * sz := by decide) (hk24 : k * sz ≤ 16777216 := by decide) :
    Mk P (do pure (.value (← Instr.buildSlice t k M.toArray))) (fun g => .slice (some ⟨g, 0, none⟩) k k) L e := by
  intro w
  obtain ⟨i, hi, hz0⟩ : ∃ i, P.info? e = some i ∧ (i.zero, i.size, i.bytes) = (some z, sz, by_) := by simpa using hi0
  simp only [Prod.mk.injEq] at hz0
  obtain ⟨hz1, hsz, hby⟩ := hz0
  have hs0 : 0 < sz := Nat.pos_of_mul_pos_left hk0
  have hf : Instr.fill (fun j => some (j * i.size, i.size)) ((Array.range (k * i.size)).map (z.cells[· % z.cells.size]!)) M = some L.toArray := by
    rw [hp, hsz, ← hL]
    exact Great.fill_whole hs0 vs _ hv (by simp [hk])
  refine ⟨w.heap.size, w.alloc (.cells L.toArray e), ?_, (Fr.refl _ w).alloc _, Nat.le_refl _, Has.new w L.toArray e⟩
  simp only [Sem.run_bind, run_buildSlice w t e k M.toArray L.toArray i z hu hi hz1 (by rw [hsz]; omega) (by rw [hsz]; omega) (by simpa using hf), Result.andThen_ok, Sem.run_pure]
/-- an operation that only yields a value, carried out -/
theorem lad_v (ho : l[i]? = some o) (hg : o.guard = none) {v : Value} (hv : ∀ x w, St S w0 w BL → R w → (execOp (A x).eval o).run P w = .ok (.value v) w) (h : Lad P l.toArray Q Sx S w0 tl s Γ BL R (fun x => (A x).put o.dst v)) : Lad P l.toArray Q Sx S w0 tl (.c i :: s) Γ BL R A :=
  ⟨o, by simpa using ho, hg, Unit, fun _ => v, fun _ _ => True, fun _ _ _ _ _ => trivial, fun x w hst hR => by unfold Oper.wp; rw [hv x w hst hR]; exact ⟨(), rfl, Fr.refl _ _, trivial⟩, fun _ => Lad.weaken s (fun w h => h.1) h⟩
theorem wp_val {a : Act} {w : World} {K : Act → World → Prop} {v : Value} (hv : (execOp a.eval o).run P w = .ok (.value v) w) (h : K (a.put o.dst v) w) : o.wp P a w K Q := by
  unfold Oper.wp
  rw [hv]
  exact h
theorem wp_rows {a : Act} {w : World} {K : Act → World → Prop} {t e : TypeId} {k : Nat} {parts : Array (Nat × Operand)} (hst : St S w0 w BL) (hop : o.op = .buildSlice t k parts) (hu : P.underlying t = some (.slice e)) {z : Value} {sz by_ : Nat} (hi0 : (P.info? e).map (fun i => (i.zero, i.size, i.bytes)) = some (some z, sz, by_))
    (vs : List Value) (hp : (parts.toList.map fun p => (p.1, a.eval p.2)) = (vs.zipIdx 0).map fun x => (x.2, x.1)) (hv : ∀ v ∈ vs, v.cells.size = sz) (hk : vs.length = k) (L : List Value) (hL : (vs.flatMap fun v => v.cells.toList) = L)
    (h : ∀ g w', St S w0 w' (BL ++ [(g, L, e)]) → K (a.put o.dst (.slice (some ⟨g, 0, none⟩) k k)) w') (hk0 : 0 < k * sz := by decide) (hk24 : k * sz ≤ 16777216 := by decide) : o.wp P a w K Q :=
  wp_mk (mk_rows hu hi0 vs rfl hv hk L hL hk0 hk24) (by unfold execOp; simp only [hop]; rw [parts_arr hp]) hst fun g w' h1 _ => h g w' h1
end
end Go.Mv

/- The reference's points: G, Written. -/
namespace Go.Proofs.YtdbgddngapminaaGreat
open Go.RowKit Go.Mv Mvp Mvq
theorem gX_bytes : beN [121, 190, 102, 126, 249, 220, 187, 172, 85, 160, 98, 149, 206, 135, 11, 7, 2, 155, 252, 219, 45, 206, 40, 217, 89, 242, 129, 91, 22, 248, 23, 152] = gXn := by decide
theorem ROfG (w : World) : Calls Tryz.prog 30 #[.string ⟨#[121, 190, 102, 126, 249, 220, 187, 172, 85, 160, 98, 149, 206, 135, 11, 7, 2, 155, 252, 219, 45, 206, 40, 217, 89, 242, 129, 91, 22, 248, 23, 152]⟩] w fun e w' => e = .returned (i4 (kN (kc gXn))) ∧ Fr Nob w w' := by
  have h := Of_any ⟨#[121, 190, 102, 126, 249, 220, 187, 172, 85, 160, 98, 149, 206, 135, 11, 7, 2, 155, 252, 219, 45, 206, 40, 217, 89, 242, 129, 91, 22, 248, 23, 152]⟩ w (by decide)
  have e : beN [121, 190, 102, 126, 249, 220, 187, 172, 85, 160, 98, 149, 206, 135, 11, 7, 2, 155, 252, 219, 45, 206, 40, 217, 89, 242, 129, 91, 22, 248, 23, 152] = kN (kc gXn) := by rw [gX_bytes]; decide
  rw [← e]
  exact h
theorem gY_even : gYn % fP = gYn ∧ gYn % 2 = 0 ∧ gYn < fP := by decide
theorem g_rt : rtOk fP (kN (kc gXn * kc gXn * kc gXn + 7)) = true ∧ kc (rtV fP (kN (kc gXn * kc gXn * kc gXn + 7))) = kc gYn := by
  have hb : kc gYn * kc gYn = kc gXn * kc gXn * kc gXn + 7 := base_on
  rw [← hb]
  have e : kN (kc gYn * kc gYn) = gYn * gYn % fP := by rw [← kc_mul', kN_kc]
  have fp : FP fP := by rw [← pP_fP]; exact FP_P
  have h4 : fP % 4 = 3 := by decide
  have ho := root_sq fp h4 gY_even.2.2
  rw [e]
  refine ⟨ho, ?_⟩
  have hlt : gYn * gYn % fP < fP := Nat.mod_lt _ (by decide)
  have hsq := root_square fp hlt ho
  have hev := root_even fp (x := gYn * gYn % fP)
  have h2 := sq_two fp.prime gY_even.2.2 (Nat.mod_lt (rtV fP (gYn * gYn % fP)) (by decide : 0 < fP)) (by rw [hsq])
  have hy := gY_even.2.1
  rcases h2 with h2 | h2
  · rw [← kc_mod, h2]
  · exfalso
    have h3 : (fP - gYn) % fP = fP - gYn := by decide
    rw [h2, h3] at hev
    have h5 : (fP - gYn) % 2 = 1 := by decide
    omega
noncomputable def baseR : RT := affR (kc gXn) (kc gYn) base_on
theorem baseR_L : baseR.L = rpL (kc gXn) (kc gYn) 1 := rfl
theorem RatG (w : World) : Calls Tryz.prog 31 #[i4 (kN (kc gXn))] w fun e w' => e = .returned (.tuple #[.agg baseR.L.toArray, .bool true]) ∧ Fr Nob w w' := by
  have h := Rat_t (kc gXn) _ _ _ rfl rfl rfl g_rt.1 w
  rw [g_rt.2] at h
  exact h
/-- the first byte, by the second coordinate's parity -/
def parB (b : Nat) : UInt8 := UInt8.ofNat (2 + b)
theorem byte_2 (b : Nat) (hb : b = 0 ∨ b = 1) : ([Value.int .u8 (2 + (b : Int))].flatMap fun v => v.cells.toList) = bs [parB b] := by
  rcases hb with rfl | rfl <;> rfl
theorem run_addS {T : TypeId} (_ : Tryz.prog.underlying T = some .string) (s t : ByteArray) (h : s.size + t.size ≤ 9223372036854775807) (w : World) : (binOp .add T (.string s) (.string t)).run Tryz.prog w = .ok (.string (s ++ t)) w := by
  have := h
  go_simp
theorem exec_addS {o : Oper} {a : Act} {p q : Operand} {T U : TypeId} {s t : ByteArray} {r : List UInt8} (ho : o.op = .binOp .add T p q U) (hp : a.eval p = .string s) (hq : a.eval q = .string t) (hT : Tryz.prog.underlying T = some .string) (h : s.size + t.size ≤ 1000000) (hr : s ++ t = mkS r) (w : World) :
    (execOp a.eval o).run Tryz.prog w = .ok (.value (.string (mkS r))) w := by
  have h2 := exec_binop (P := Tryz.prog) ho hp hq w (by go_simp) (run_addS hT s t (by omega) w)
  rwa [hr] at h2
theorem exec_str {P : Program} {o : Oper} {a : Act} {x : Operand} {src dst e : TypeId} (ho : o.op = .convert src dst x) (hs : P.underlying src = some (.slice e)) (he : P.underlying e = some (.int .u8)) (hd : P.underlying dst = some .string) {sa : Option Addr} {m c : Nat} {l : List UInt8}
    (hx : a.eval x = .slice sa m c) {w : World} (h : RdB w sa m l) : (execOp a.eval o).run P w = .ok (.value (.string (mkS l))) w := by
  unfold execOp
  simp only [ho, hx, Sem.run_bind, run_string h c hs he hd, Result.andThen_ok, Sem.run_pure]
theorem mkS_app (l m : List UInt8) : mkS l ++ mkS m = mkS (l ++ m) := by
  apply ByteArray.ext
  simp [mkS]
theorem z_u8 : (List.replicate 33 (Value.int .u8 0)) = bs (List.replicate 33 0) := by rfl
attribute [local irreducible] limbs lw mix cw cSub cAdd cMul foldC valFrom beN laid be32 powm montT mstep elN mdL numB rtV rtOk kN kc kinv wrPt addR noR timesR tmsR RT.L gXn gYn parB
set_option maxHeartbeats 16000000 in
set_option maxRecDepth 1000000 in
theorem RG_c (w : World) : Calls Tryz.prog 11 #[] w fun e w' => e = .returned (.agg baseR.L.toArray) ∧ Fr Nob w w' := by
  have st0 := St.start Nob w
  go_enter Tryz.func11, Tryz.ntmps11
  go_wp2_with (with_reducible refine wl_stop (o := ⟨some 0, _, _, _, _, _⟩) ?_)
  refine wl_allocS st0 rfl rfl (z := .agg #[.int .u64 0, .int .u64 0, .int .u64 0, .int .u64 0, .int .u64 0, .int .u64 0, .int .u64 0, .int .u64 0, .int .u64 0, .int .u64 0, .int .u64 0, .int .u64 0]) (by kernel_rfl) (cw 12 0) (by rw [cw_zero]; rfl) ?_
  intro g0 w1 st1
  clear st0
  go_wp2_with fail
  refine (ROfG _).mono ?_
  rintro e' w2 ⟨rfl, hf2⟩
  have st2 := st1.keep hf2
  clear st1 hf2
  go_wp2_with (with_reducible refine wl_stop (o := ⟨some 1, _, _, _, _, _⟩) ?_)
  refine wl_allocS st2 rfl rfl (z := .agg #[.int .u64 0, .int .u64 0, .int .u64 0, .int .u64 0]) (by kernel_rfl) (cw 4 0) (by rw [cw_zero]; rfl) ?_
  intro g1 w3 st3
  clear st2
  go_wp2_with (with_reducible refine wl_stop (o := ⟨none, _, _, _, _, _⟩) ?_)
  refine wl_storeS st3 1 rfl rfl rfl rfl rfl (by simp [cw_len]) (by kernel_rfl) (cw_one _ _) ?_
  intro w4 st4
  clear st3
  go_wp2_with (with_reducible refine wl_stop (o := ⟨some 6, _, _, _, _, _⟩) ?_)
  refine wl_loadS st4 1 rfl rfl rfl Tryz.underlying32 rfl (by kernel_rfl) ?_
  go_wp2_with fail
  refine (RatG _).mono ?_
  rintro e' w5 ⟨rfl, hf5⟩
  have st5 := st4.keep hf5
  clear st4 hf5
  go_wp2_with (with_reducible refine wl_stop (o := ⟨some 2, _, _, _, _, _⟩) ?_)
  refine wl_allocS st5 rfl rfl (z := .agg #[.int .u64 0, .int .u64 0, .int .u64 0, .int .u64 0, .int .u64 0, .int .u64 0, .int .u64 0, .int .u64 0, .int .u64 0, .int .u64 0, .int .u64 0, .int .u64 0]) (by kernel_rfl) (cw 12 0) (by rw [cw_zero]; rfl) ?_
  intro g2 w6 st6
  clear st5
  go_wp2_with (with_reducible refine wl_stop (o := ⟨none, _, _, _, _, _⟩) ?_)
  refine wl_storeS st6 2 rfl rfl rfl rfl rfl (by first | (simp [cw_len]; done) | (simp [RT.len]; done) | (simp [cw_len, RT.len]; done) | simp [cw_len, RT.len]) (by kernel_rfl) (RT.one _) ?_
  intro w7 st7
  clear st6
  go_wp2_with (with_reducible refine wl_stop (o := ⟨some 10, _, _, _, _, _⟩) ?_)
  refine wl_loadSt st7 2 rfl rfl rfl Tryz.underlying34 rfl rfl (by kernel_rfl) ?_
  go_wp2_with (with_reducible refine wl_stop (o := ⟨none, _, _, _, _, _⟩) ?_)
  refine wl_storeS st7 0 rfl rfl rfl rfl rfl (by first | (simp [cw_len]; done) | (simp [RT.len]; done) | (simp [cw_len, RT.len]; done) | simp [cw_len, RT.len]) (by kernel_rfl) (RT.one _) ?_
  intro w8 st8
  clear st7
  have hr := st8.at 0 rfl
  have hfr := st8.fr
  clear st8
  go_wp2_with fail
  exact bodyPost_ret (results_st rfl rfl hr Tryz.underlying34 rfl (by kernel_rfl)) rfl ⟨rfl, hfr⟩

set_option maxHeartbeats 16000000 in
set_option maxRecDepth 1000000 in
theorem RWritten_O (x y z : K) (hb : decide (z = 0) = true) (w : World) : Calls Tryz.prog 12 #[rpV x y z] w fun e w' => e = .returned (.string (mkS (List.replicate 33 0))) ∧ Fr Nob w w' := by
  have HB := Lib.hid hb
  clear hb
  unfold rpV rpL
  have st0 := St.start Nob w
  go_enter Tryz.func12, Tryz.ntmps12
  go_wp2_with (with_reducible refine wl_stop (o := ⟨some 1, _, _, _, _, _⟩) ?_)
  refine wl_boxS st0 rfl rfl rfl (cw 4 (kN x) ++ (cw 4 (kN y) ++ cw 4 (kN z))) rfl ?_
  intro g1 w1 st1
  clear st0
  go_wp2_with (with_reducible refine wl_stop (o := ⟨some 7, _, _, _, _, _⟩) ?_)
  refine wl_loadSt st1 0 rfl rfl rfl Tryz.underlying34 rfl rfl (by kernel_rfl) ?_
  go_wp2_with fail
  refine (RIs_any x y z true HB.out _).mono ?_
  rintro e' w2 ⟨rfl, hf2⟩
  have st2 := st1.keep hf2
  clear st1 hf2
  go_wp2_with (with_reducible refine wl_stop (o := ⟨some 10, _, _, _, _, _⟩) ?_)
  refine wl_make rfl rfl Tryz.underlying22 info_u8 rfl rfl rfl 33 33 (by simp) (by simp) (by omega) (by omega) (by unfold maxLen; omega) ?_
  intro w3 hg2 hf2 hz2
  clear hz2
  have st3 := st2.new hf2 hg2 (Nat.le_refl _)
  clear st2 hg2 hf2
  rw [z_u8] at st3
  go_wp2_with (with_reducible refine wl_stop (o := ⟨some 11, _, _, _, _, _⟩) ?_)
  refine wl_string rfl rfl Tryz.underlying22 Tryz.underlying5 Tryz.underlying9 rfl (l := List.replicate 33 0) (Rd.whole (st3.at 1 rfl)) ?_
  have hfr := st3.fr
  clear st3
  go_wp2_with fail
  go_ret
  exact ⟨rfl, hfr⟩

set_option maxHeartbeats 16000000 in
set_option maxRecDepth 1000000 in
theorem RWritten_v (x y z : K) (hb : decide (z = 0) = false) (i X Y : K) (ei : kinv z = i) (eX : x * i = X) (eY : y * i = Y) (w : World) : Calls Tryz.prog 12 #[rpV x y z] w fun e w' => e = .returned (.string (mkS (parB (kN Y % 2) :: be32 (kN X)))) ∧ Fr Nob w w' := by
  have HB := Lib.hid hb
  clear hb
  have Hi := Lib.hid ei
  have HX := Lib.hid eX
  have HY := Lib.hid eY
  clear ei eX eY
  unfold rpV rpL
  have st0 := St.start Nob w
  go_enter Tryz.func12, Tryz.ntmps12
  go_wp2_with (with_reducible refine wl_stop (o := ⟨some 1, _, _, _, _, _⟩) ?_)
  refine wl_boxS st0 rfl rfl rfl (cw 4 (kN x) ++ (cw 4 (kN y) ++ cw 4 (kN z))) rfl ?_
  intro g1 w1 st1
  clear st0
  go_wp2_with (with_reducible refine wl_stop (o := ⟨some 7, _, _, _, _, _⟩) ?_)
  refine wl_loadSt st1 0 rfl rfl rfl Tryz.underlying34 rfl rfl (by kernel_rfl) ?_
  go_wp2_with fail
  refine (RIs_any x y z false HB.out _).mono ?_
  rintro e' w2 ⟨rfl, hf2⟩
  have st2 := st1.keep hf2
  clear st1 hf2
  go_wp2_with fail
  refine wp_region_noPanic ?_
  refine wp_region_lad st2 5 [.o 4, .w 1, .t 2, .c 0, .c 3, .j 4] (.m 5 .nil) (by kernel_rfl) (by kernel_rfl) (fun _ _ _ _ _ h => h) ?_
  clear st2
  refine lad_o rfl rfl rfl z_rn (cw 4 0) rfl ?_
  try simp only [Go.Mv.clL]
  refine lad_w (v := ?_) rfl rfl (fun xq wx => ?_) ?_; rotate_left 1; · (go_simp; with_reducible rfl)
  try simp only [Go.Mv.clL]
  refine lad_arr rfl rfl rfl (fun _ => rfl) (cw 4 (kN z)) (fun wx hS => St.rangeL hS 0 rfl 8 _ (pt_z _ _ _)) Tryz.underlying32 rfl (by kernel_rfl) ?_
  try simp only [Go.Mv.clL]
  refine lad_call rfl rfl rfl Tryz.call33 (fun w hS hR => RF_any _) (fun _ => rfl) ?_
  try simp only [Go.Mv.clL]
  refine lad_call rfl rfl rfl Tryz.call34 (fun w hS hR => KInv z i Hi.out _) (fun _ => rfl) ?_
  try simp only [Go.Mv.clL]
  refine lad_j List.mem_cons_self fun g4 => ?_
  simp only [upd, reduceIte]
  refine lad_end fun xq w3 st3 hR => ?_
  try dsimp only
  clear hR xq
  refine plan_m rfl rfl ?_
  refine wp_storeS st3 1 rfl rfl rfl rfl (by simp [cw_len]) (by kernel_rfl) (cw_one _ _) ?_
  intro w4 st4
  repeat (first | simp only [List.cons_append] at st4 | simp only [List.nil_append] at st4 | simp only [List.set_cons_succ] at st4 | simp only [List.set_cons_zero] at st4)
  clear st3
  try simp only [Act.put]
  refine plan_end ?_
  refine NoPanic.normal ?_
  go_wp2_with fail
  refine wp_region_noPanic ?_
  refine wp_region_lad st4 6 [.o 5, .w 1, .t 2, .t 3, .c 0, .c 4, .j 5] (.m 6 .nil) (by kernel_rfl) (by kernel_rfl) (fun _ _ _ _ _ h => h) ?_
  clear st4
  refine lad_o rfl rfl rfl z_rn (cw 4 0) rfl ?_
  try simp only [Go.Mv.clL]
  refine lad_w (v := ?_) rfl rfl (fun xq wx => ?_) ?_; rotate_left 1; · (go_simp; with_reducible rfl)
  try simp only [Go.Mv.clL]
  refine lad_arr rfl rfl rfl (fun _ => rfl) (cw 4 (kN x)) (fun wx hS => St.rangeL hS 0 rfl 0 _ (pt_x _ _ _)) Tryz.underlying32 rfl (by kernel_rfl) ?_
  try simp only [Go.Mv.clL]
  refine lad_arr rfl rfl rfl (fun _ => rfl) (cw 4 (kN i)) (fun wx hS => St.rangeL hS 1 rfl 0 _ (by rw [List.drop_zero, List.take_of_length_le (Nat.le_refl _)])) Tryz.underlying32 rfl (by kernel_rfl) ?_
  try simp only [Go.Mv.clL]
  refine lad_call rfl rfl rfl Tryz.call33 (fun w hS hR => RF_any _) (fun _ => rfl) ?_
  try simp only [Go.Mv.clL]
  refine lad_call rfl rfl rfl Tryz.call35 (fun w hS hR => KMul x i X HX.out _) (fun _ => rfl) ?_
  try simp only [Go.Mv.clL]
  refine lad_j List.mem_cons_self fun g5 => ?_
  simp only [upd, reduceIte]
  refine lad_end fun xq w5 st5 hR => ?_
  try dsimp only
  clear hR xq
  refine plan_m rfl rfl ?_
  refine wp_storeS st5 2 rfl rfl rfl rfl (by simp [cw_len]) (by kernel_rfl) (cw_one _ _) ?_
  intro w6 st6
  repeat (first | simp only [List.cons_append] at st6 | simp only [List.nil_append] at st6 | simp only [List.set_cons_succ] at st6 | simp only [List.set_cons_zero] at st6)
  clear st5
  try simp only [Act.put]
  refine plan_end ?_
  refine NoPanic.normal ?_
  go_wp2_with fail
  refine wp_region_noPanic ?_
  refine wp_region_lad st6 6 [.o 5, .w 1, .t 2, .t 3, .c 0, .c 4, .j 5] (.m 6 .nil) (by kernel_rfl) (by kernel_rfl) (fun _ _ _ _ _ h => h) ?_
  clear st6
  refine lad_o rfl rfl rfl z_rn (cw 4 0) rfl ?_
  try simp only [Go.Mv.clL]
  refine lad_w (v := ?_) rfl rfl (fun xq wx => ?_) ?_; rotate_left 1; · (go_simp; with_reducible rfl)
  try simp only [Go.Mv.clL]
  refine lad_arr rfl rfl rfl (fun _ => rfl) (cw 4 (kN y)) (fun wx hS => St.rangeL hS 0 rfl 4 _ (pt_y _ _ _)) Tryz.underlying32 rfl (by kernel_rfl) ?_
  try simp only [Go.Mv.clL]
  refine lad_arr rfl rfl rfl (fun _ => rfl) (cw 4 (kN i)) (fun wx hS => St.rangeL hS 1 rfl 0 _ (by rw [List.drop_zero, List.take_of_length_le (Nat.le_refl _)])) Tryz.underlying32 rfl (by kernel_rfl) ?_
  try simp only [Go.Mv.clL]
  refine lad_call rfl rfl rfl Tryz.call33 (fun w hS hR => RF_any _) (fun _ => rfl) ?_
  try simp only [Go.Mv.clL]
  refine lad_call rfl rfl rfl Tryz.call35 (fun w hS hR => KMul y i Y HY.out _) (fun _ => rfl) ?_
  try simp only [Go.Mv.clL]
  refine lad_j List.mem_cons_self fun g6 => ?_
  simp only [upd, reduceIte]
  refine lad_end fun xq w7 st7 hR => ?_
  try dsimp only
  clear hR xq
  refine plan_m rfl rfl ?_
  refine wp_storeS st7 3 rfl rfl rfl rfl (by simp [cw_len]) (by kernel_rfl) (cw_one _ _) ?_
  intro w8 st8
  repeat (first | simp only [List.cons_append] at st8 | simp only [List.nil_append] at st8 | simp only [List.set_cons_succ] at st8 | simp only [List.set_cons_zero] at st8)
  clear st7
  try simp only [Act.put]
  refine plan_end ?_
  refine NoPanic.normal ?_
  have ha := low_and (kN Y)
  have hb2 : kN Y % 2 = 0 ∨ kN Y % 2 = 1 := by omega
  generalize hbv : kN Y % 2 = b at *
  have HBV := Lib.hid hbv
  clear hbv
  have hw8 : IntKind.u8.wrap (b : Int) = (b : Int) := by rcases hb2 with rfl | rfl <;> decide
  have hw9 : IntKind.u8.wrap (2 + (b : Int)) = 2 + (b : Int) := by rcases hb2 with rfl | rfl <;> decide
  have HB2 := Lib.hid hb2
  clear hb2
  go_wp2_with fail
  refine wp_region_noPanic ?_
  refine wp_region_plan (fun wx => St Nob w wx [(g1, cw 4 (kN x) ++ (cw 4 (kN y) ++ cw 4 (kN z)), 34), (g4, cw 4 (kN i), 32), (g5, cw 4 (kN X), 32), (g6, cw 4 (kN Y), 32)]) 10 (.w 0 (.t 1 (.w 2 (.w 3 (.w 4 (.t 7 (.b 5 8 (.b 6 8 (.r 8 (.r 9 (.m 10 .nil))) (.r 6 (.r 9 (.m 10 .nil)))) (.r 5 (.r 6 (.r 9 (.m 10 .nil))))))))))) (by kernel_rfl) (by kernel_rfl) st8.drew (fun _ _ _ _ _ h => h) ?_
  have hd8 := st8.drew
  clear st8
  refine plan_w (v := ?_) rfl rfl (fun wx => ?_) ?_; rotate_left 1; · (go_simp; with_reducible rfl)
  try simp only [Go.Mv.clL]
  refine plan_t (v := ?_) rfl rfl (fun wx hS => ?_) ?_
  rotate_left 1
  · (have hc := (St.at hS 3 rfl).cell (cw_get 4 (kN Y) 0 (by decide)); clear hS; go_simp; with_reducible rfl)
  try simp only [Go.Mv.clL]
  iterate 3 (refine plan_w (v := ?_) rfl rfl (fun wx => ?_) ?_; rotate_left 1; · (go_simp; with_reducible rfl); try simp only [Go.Mv.clL])
  refine plan_arr rfl rfl rfl rfl (cw 4 (kN X)) (fun wx hS => St.rangeL hS 2 rfl 0 _ (by rw [List.drop_zero, List.take_of_length_le (Nat.le_refl _)])) Tryz.underlying32 rfl (by kernel_rfl) ?_
  try simp only [Go.Mv.clL]
  refine plan_key1 (C := fun g31 wz => St Nob w wz [(g1, cw 4 (kN x) ++ (cw 4 (kN y) ++ cw 4 (kN z)), 34), (g4, cw 4 (kN i), 32), (g5, cw 4 (kN X), 32), (g6, cw 4 (kN Y), 32), (g31, bs [parB b], 5)]) (F := ?_) (fun key => ?_) ?_
  rotate_left 1
  · skip
    refine plan_b0 rfl rfl rfl rfl ?_ ?_
    · skip
      refine wp_rows hd8 rfl Tryz.underlying22 info_u8 [.int .u8 (2 + (b : Int))] rfl (by simp [Value.cells]) rfl _ (byte_2 b HB2.out) ?_
      intro g31 w9 st9
      refine ⟨St.less st9 (by simp), ?_⟩
      try simp only [Go.Mv.clL]
      refine plan_b0 rfl rfl rfl rfl ?_ ?_
      · skip
        refine wp_val (exec_str rfl Tryz.underlying22 Tryz.underlying5 Tryz.underlying9 rfl (l := [parB b]) (Rd.whole (st9.at 4 rfl))) ?_
        have st10 := st9
        refine ⟨St.less st10 (by simp), ?_⟩
        try simp only [Go.Mv.clL]
        refine plan_r rfl rfl ?_
        go_simp
        refine (RBytes_any (kN X) _).mono ?_
        rintro e' w11 ⟨rfl, hf11⟩
        have st11 := st10.keep hf11
        clear hf11
        refine ⟨St.less st11 (by simp), ?_⟩
        try simp only [Go.Mv.clL]
        refine plan_r rfl rfl ?_
        refine wp_val (exec_addS rfl rfl rfl Tryz.underlying9 (by rw [mkS_size, mkS_size, be32_len]; simp) (mkS_app _ _) _) ?_
        have st12 := st11
        refine ⟨St.less st12 (by simp), ?_⟩
        try simp only [Go.Mv.clL]
        refine plan_m rfl rfl ?_
        go_simp
        try simp only [Go.Mv.clL]
        refine plan_end ?_
        exact key g31 _ st12
      · skip
        go_simp
        refine (RBytes_any (kN X) _).mono ?_
        rintro e' w13 ⟨rfl, hf13⟩
        have st13 := st9.keep hf13
        clear hf13
        refine ⟨St.less st13 (by simp), ?_⟩
        try simp only [Go.Mv.clL]
        refine plan_r rfl rfl ?_
        refine wp_val (exec_str rfl Tryz.underlying22 Tryz.underlying5 Tryz.underlying9 rfl (l := [parB b]) (Rd.whole (st13.at 4 rfl))) ?_
        have st14 := st13
        refine ⟨St.less st14 (by simp), ?_⟩
        try simp only [Go.Mv.clL]
        refine plan_r rfl rfl ?_
        refine wp_val (exec_addS rfl rfl rfl Tryz.underlying9 (by rw [mkS_size, mkS_size, be32_len]; simp) (mkS_app _ _) _) ?_
        have st15 := st14
        refine ⟨St.less st15 (by simp), ?_⟩
        try simp only [Go.Mv.clL]
        refine plan_m rfl rfl ?_
        go_simp
        try simp only [Go.Mv.clL]
        refine plan_end ?_
        exact key g31 _ st15
    · skip
      go_simp
      refine (RBytes_any (kN X) _).mono ?_
      rintro e' w16 ⟨rfl, hf16⟩
      have st16 := hd8.keep hf16
      clear hf16
      refine ⟨st16, ?_⟩
      try simp only [Go.Mv.clL]
      refine plan_r rfl rfl ?_
      refine wp_rows st16 rfl Tryz.underlying22 info_u8 [.int .u8 (2 + (b : Int))] rfl (by simp [Value.cells]) rfl _ (byte_2 b HB2.out) ?_
      intro g31 w17 st17
      refine ⟨St.less st17 (by simp), ?_⟩
      try simp only [Go.Mv.clL]
      refine plan_r rfl rfl ?_
      refine wp_val (exec_str rfl Tryz.underlying22 Tryz.underlying5 Tryz.underlying9 rfl (l := [parB b]) (Rd.whole (st17.at 4 rfl))) ?_
      have st18 := st17
      refine ⟨St.less st18 (by simp), ?_⟩
      try simp only [Go.Mv.clL]
      refine plan_r rfl rfl ?_
      refine wp_val (exec_addS rfl rfl rfl Tryz.underlying9 (by rw [mkS_size, mkS_size, be32_len]; simp) (mkS_app _ _) _) ?_
      have st19 := st18
      refine ⟨St.less st19 (by simp), ?_⟩
      try simp only [Go.Mv.clL]
      refine plan_m rfl rfl ?_
      go_simp
      try simp only [Go.Mv.clL]
      refine plan_end ?_
      exact key g31 _ st19
  intro g31 w20 st20
  have st20 : St Nob w w20 [(g1, cw 4 (kN x) ++ (cw 4 (kN y) ++ cw 4 (kN z)), 34), (g4, cw 4 (kN i), 32), (g5, cw 4 (kN X), 32), (g6, cw 4 (kN Y), 32), (g31, bs [parB b], 5)] := st20
  clear hd8
  refine NoPanic.normal ?_
  have hfr := st20.fr
  clear st20
  go_wp2_with fail
  go_ret
  exact ⟨by rw [HBV.out]; rfl, hfr⟩

end Go.Proofs.YtdbgddngapminaaGreat
namespace Go.Proofs.YtdbgddngapminaaGreat
open Go.RowKit Go.Mv Mvp Mvq
theorem wrPt_K (x y : K) : wrPt (.A x y) = parB (kN y % 2) :: be32 (kN x) := rfl
theorem RWritten_c (s : RT) (w : World) : Calls Tryz.prog 12 #[.agg s.L.toArray] w fun e w' => e = .returned (.string (mkS (wrPt s.pt))) ∧ Fr Nob w w' := by
  cases h : s.isO
  · have hz : s.z ≠ 0 := by simpa [RT.isO] using h
    have h2 : s.pt = .A (s.x * kinv s.z) (s.y * kinv s.z) := nm_nz hz
    rw [h2, wrPt_K]
    exact RWritten_v s.x s.y s.z h _ _ _ rfl rfl rfl w
  · rw [RT.isO_t h]
    exact RWritten_O s.x s.y s.z h w
end Go.Proofs.YtdbgddngapminaaGreat

/- The reference's points: Read. -/
namespace Go.Proofs.YtdbgddngapminaaGreat
open Go.RowKit Go.Mv Mvp Mvq
attribute [local irreducible] limbs lw mix cw cSub cAdd cMul foldC valFrom beN laid be32 powm montT mstep elN mdL numB rtV rtOk kN kc kinv wrPt addR noR timesR tmsR RT.L gXn gYn
end Go.Proofs.YtdbgddngapminaaGreat

/- The reference's Read, for all bytes; its Base, its Same. -/
namespace Go.Proofs.YtdbgddngapminaaGreat
open Go.RowKit Go.Mv Mvp Mvq
attribute [local irreducible] rtV rtOk rpL crvN beN be32
theorem kN_crv (n : Nat) : kN (kc n * kc n * kc n + 7) = crvN n % fP := by rw [← crvN_kc, kN_kc]
theorem RAt_t (n : Nat) (hr : rtOk fP (crvN n) = true) (w : World) : Calls Tryz.prog 31 #[i4 (kN (kc n))] w fun e w' => e = .returned (.tuple #[rpV (kc n) (kc (rtV fP (crvN n))) 1, .bool true]) ∧ Fr Nob w w' := by
  have h := Rat_t (kc n) _ _ _ rfl rfl rfl (by rw [kN_crv, rtOk_mod]; exact hr) w
  rw [kN_crv, rtV_mod] at h
  exact h
theorem RAt_f (n : Nat) (hr : rtOk fP (crvN n) = false) (w : World) : Calls Tryz.prog 31 #[i4 (kN (kc n))] w fun e w' => e = .returned (.tuple #[rpV (kc n) 0 1, .bool false]) ∧ Fr Nob w w' :=
  Rat_f (kc n) _ _ _ rfl rfl rfl (by rw [kN_crv, rtOk_mod]; exact hr) w
end Go.Proofs.YtdbgddngapminaaGreat

/- The reference's Read and Number, each as one contract; the law's told. -/
namespace Go.Proofs.YtdbgddngapminaaGreat
open Go.RowKit Go.Mv Mvp Mvq
theorem RNumQ_u (s : ByteArray) (w : World) : Calls Tryz.prog 15 #[fv mQ.M, .string s] w fun e w' => ∃ N : Nat, e = .returned (.tuple #[i4 N, .bool (numB mQ s.data.toList)]) ∧ (numB mQ s.data.toList = true → N = beN s.data.toList) ∧ Fr Nob w w' := by
  cases h : numB mQ s.data.toList
  · exact (Number_f mQ mQ_ok.lt s w h).mono fun e w' ⟨N, k1, k2⟩ => ⟨N, k1, fun h => (by cases h), k2⟩
  · exact (Number_t mQ mQ_ok.lt s w h).mono fun e w' k => ⟨_, k.1, fun _ => rfl, k.2⟩
theorem RQ_u (w : World) : Calls Tryz.prog 14 #[] w fun e w' => e = .returned (fv mQ.M) ∧ Fr Nob w w' := Q_any mQ .one w
theorem t_ok {lk la : List UInt8} (hk : numB mQ lk = true) (ha : rdOk la = true) : tC lk la = 0 ∧ tS lk la = wrPt (pmul (beN lk) (rdPt la)) := by unfold tC tS; rw [hk, ha]; exact ⟨rfl, rfl⟩
end Go.Proofs.YtdbgddngapminaaGreat

/- num.Dot: what it answers. -/
namespace Mvp
end Mvp
namespace Go.Proofs.YtdbgddngapminaaGreat
open Go.RowKit Go.Mv Mvp
attribute [local irreducible] limbs lw mix cw cSub cAdd cMul foldC valFrom beN laid be32 powm montT mstep elN mdL numB
end Go.Proofs.YtdbgddngapminaaGreat

/- Pure sponge: what the program's and the reference's permutation compute, and that the two are one. -/
namespace Mvp


def goesTo (i : Nat) : Nat := i / 5 + 5 * ((2 * (i % 5) + 3 * (i / 5)) % 5)

/- the program -/
def colStep (s c : List UInt64) (i : Nat) : List UInt64 := c.set (i % 5) (c.getD (i % 5) 0 ^^^ s.getD i 0)
def colP (s : List UInt64) (k : Nat) : List UInt64 := (List.range k).foldl (colStep s) [0, 0, 0, 0, 0]
def movStep (s col : List UInt64) (by_ : List Nat) (m : List UInt64) (i : Nat) : List UInt64 :=
  m.set (goesTo i) (rotl (s.getD i 0 ^^^ (col.getD ((i + 4) % 5) 0 ^^^ rotl (col.getD ((i + 1) % 5) 0) 1)) (by_.getD i 0))
def movP (s col : List UInt64) (by_ : List Nat) (k : Nat) : List UInt64 := (List.range k).foldl (movStep s col by_) (List.replicate 25 0)
def chiStep (m : List UInt64) (y : Nat) (s : List UInt64) (x : Nat) : List UInt64 :=
  s.set (y + x) (m.getD (y + x) 0 ^^^ (~~~ (m.getD (y + (x + 1) % 5) 0) &&& m.getD (y + (x + 2) % 5) 0))
def chiRow (m s : List UInt64) (y k : Nat) : List UInt64 := (List.range k).foldl (chiStep m y) s
def chiP (m s : List UInt64) (k : Nat) : List UInt64 := (List.range k).foldl (fun s y => chiRow m s (5 * y) 5) s
def roundP (by_ : List Nat) (s : List UInt64) (c : UInt64) : List UInt64 :=
  let t := chiP (movP s (colP s 25) by_ 25) s 5
  t.set 0 (t.getD 0 0 ^^^ c)
def permP (by_ : List Nat) (rc : Nat → UInt64) (s : List UInt64) (k : Nat) : List UInt64 := (List.range k).foldl (fun s r => roundP by_ s (rc r)) s

/- the reference -/
def place (x y : Nat) : Nat := x % 5 + 5 * (y % 5)
def colRstep (s : List UInt64) (x : Nat) (c : List UInt64) (y : Nat) : List UInt64 := c.set x (c.getD x 0 ^^^ s.getD (place x y) 0)
def colRrow (s c : List UInt64) (x k : Nat) : List UInt64 := (List.range k).foldl (colRstep s x) c
def colR (s : List UInt64) (k : Nat) : List UInt64 := (List.range k).foldl (fun c x => colRrow s c x 5) [0, 0, 0, 0, 0]
def movRstep (s : List UInt64) (turn : List Nat) (x : Nat) (d : UInt64) (m : List UInt64) (y : Nat) : List UInt64 :=
  m.set (place y (2 * x + 3 * y)) (rotl (s.getD (place x y) 0 ^^^ d) (turn.getD (place x y) 0))
def movRrow (s : List UInt64) (turn : List Nat) (m : List UInt64) (x : Nat) (d : UInt64) (k : Nat) : List UInt64 := (List.range k).foldl (movRstep s turn x d) m
def dR (col : List UInt64) (x : Nat) : UInt64 := col.getD ((x + 4) % 5) 0 ^^^ rotl (col.getD ((x + 1) % 5) 0) 1
def movR (s : List UInt64) (turn : List Nat) (col : List UInt64) (k : Nat) : List UInt64 := (List.range k).foldl (fun m x => movRrow s turn m x (dR col x) 5) (List.replicate 25 0)
def chiRstep (m : List UInt64) (x : Nat) (o : List UInt64) (y : Nat) : List UInt64 :=
  o.set (place x y) (m.getD (place x y) 0 ^^^ (~~~ (m.getD (place (x + 1) y) 0) &&& m.getD (place (x + 2) y) 0))
def chiRrow (m o : List UInt64) (x k : Nat) : List UInt64 := (List.range k).foldl (chiRstep m x) o
def chiR (m : List UInt64) (k : Nat) : List UInt64 := (List.range k).foldl (fun o x => chiRrow m o x 5) (List.replicate 25 0)
def roundR (turn : List Nat) (s : List UInt64) (c : UInt64) : List UInt64 :=
  let t := chiR (movR s turn (colR s 5) 5) 5
  t.set 0 (t.getD 0 0 ^^^ c)
def permR (turn : List Nat) (rc : Nat → UInt64) (s : List UInt64) (k : Nat) : List UInt64 := (List.range k).foldl (fun s r => roundR turn s (rc r)) s

theorem len25 (s : List UInt64) (h : s.length = 25) : ∃ a0 a1 a2 a3 a4 a5 a6 a7 a8 a9 a10 a11 a12 a13 a14 a15 a16 a17 a18 a19 a20 a21 a22 a23 a24, s = [a0, a1, a2, a3, a4, a5, a6, a7, a8, a9, a10, a11, a12, a13, a14, a15, a16, a17, a18, a19, a20, a21, a22, a23, a24] := by
  match s, h with
  | [a0, a1, a2, a3, a4, a5, a6, a7, a8, a9, a10, a11, a12, a13, a14, a15, a16, a17, a18, a19, a20, a21, a22, a23, a24], _ => exact ⟨_, _, _, _, _, _, _, _, _, _, _, _, _, _, _, _, _, _, _, _, _, _, _, _, _, rfl⟩

theorem col_same (s : List UInt64) (h : s.length = 25) : colP s 25 = colR s 5 := by
  obtain ⟨a0, a1, a2, a3, a4, a5, a6, a7, a8, a9, a10, a11, a12, a13, a14, a15, a16, a17, a18, a19, a20, a21, a22, a23, a24, rfl⟩ := len25 s h
  kernel_rfl

theorem mov_same (s col : List UInt64) (t : List Nat) : movP s col t 25 = movR s t col 5 := by
  kernel_rfl

theorem chi_same (m s : List UInt64) (h : s.length = 25) : chiP m s 5 = chiR m 5 := by
  obtain ⟨a0, a1, a2, a3, a4, a5, a6, a7, a8, a9, a10, a11, a12, a13, a14, a15, a16, a17, a18, a19, a20, a21, a22, a23, a24, rfl⟩ := len25 s h
  kernel_rfl

theorem round_same (t : List Nat) (s : List UInt64) (c : UInt64) (h : s.length = 25) : roundP t s c = roundR t s c := by
  unfold roundP roundR
  rw [col_same s h, mov_same, chi_same _ s h]

theorem foldl_inv {α β : Type} (P : α → Prop) (f : α → β → α) (hf : ∀ a b, P a → P (f a b)) (l : List β) : ∀ a, P a → P (l.foldl f a) := by
  induction l with
  | nil => intro a h; exact h
  | cons b l ih => intro a h; exact ih _ (hf _ _ h)

theorem chiP_len (m s : List UInt64) (k : Nat) : (chiP m s k).length = s.length := by
  refine foldl_inv (fun l : List UInt64 => l.length = s.length) _ (fun a y h => ?_) _ _ rfl
  refine foldl_inv (fun l : List UInt64 => l.length = s.length) _ (fun b x h => ?_) _ _ h
  simp [chiStep, h]

theorem roundP_len (t : List Nat) (s : List UInt64) (c : UInt64) : (roundP t s c).length = s.length := by simp [roundP, chiP_len]

theorem permP_succ (t : List Nat) (rc : Nat → UInt64) (s : List UInt64) (k : Nat) : permP t rc s (k + 1) = roundP t (permP t rc s k) (rc k) := by
  simp [permP, List.range_succ]
theorem permR_succ (t : List Nat) (rc : Nat → UInt64) (s : List UInt64) (k : Nat) : permR t rc s (k + 1) = roundR t (permR t rc s k) (rc k) := by
  simp [permR, List.range_succ]
theorem permP_len (t : List Nat) (rc : Nat → UInt64) (s : List UInt64) (k : Nat) : (permP t rc s k).length = s.length := by
  induction k with
  | zero => simp [permP]
  | succ k ih => rw [permP_succ, roundP_len, ih]
theorem perm_same (t : List Nat) (rc rc' : Nat → UInt64) (s : List UInt64) (h : s.length = 25) (n : Nat) (hrc : ∀ r, r < n → rc r = rc' r) : permP t rc s n = permR t rc' s n := by
  induction n with
  | zero => simp [permP, permR]
  | succ k ih =>
    rw [permP_succ, permR_succ, ← ih (fun r hr => hrc r (by omega)), hrc k (by omega)]
    exact round_same _ _ _ (by rw [permP_len, h])

/- the constants of the rounds -/
def lfsr : Nat → Nat
  | 0 => 1
  | n + 1 => if 2 * lfsr n > 255 then (2 * lfsr n) ^^^ 369 else 2 * lfsr n
theorem lfsr_lt (n : Nat) : lfsr n < 256 := by
  have h : ∀ r, r < 256 → (if 2 * r > 255 then (2 * r) ^^^ 369 else 2 * r) < 256 := by decide +kernel
  induction n with
  | zero => decide
  | succ n ih => exact h _ ih
def bitR (t : Nat) : Nat := lfsr t % 2
def bitW (t : Nat) : UInt64 := UInt64.ofNat (bitR t)
def rcStep (r : Nat) (out : UInt64) (j : Nat) : UInt64 := out ||| shl (bitW (j + 7 * r)) (2 ^ j - 1)
def rcR (r k : Nat) : UInt64 := (List.range k).foldl (rcStep r) 0

def rcBytes : List Nat := [
  0, 0, 0, 0, 0, 0, 0, 1, 0, 0, 0, 0, 0, 0, 0x80, 0x82, 0x80, 0, 0, 0, 0, 0, 0x80, 0x8a, 0x80, 0, 0, 0, 0x80, 0, 0x80, 0,
  0, 0, 0, 0, 0, 0, 0x80, 0x8b, 0, 0, 0, 0, 0x80, 0, 0, 1, 0x80, 0, 0, 0, 0x80, 0, 0x80, 0x81, 0x80, 0, 0, 0, 0, 0, 0x80, 9,
  0, 0, 0, 0, 0, 0, 0, 0x8a, 0, 0, 0, 0, 0, 0, 0, 0x88, 0, 0, 0, 0, 0x80, 0, 0x80, 9, 0, 0, 0, 0, 0x80, 0, 0, 0xa,
  0, 0, 0, 0, 0x80, 0, 0x80, 0x8b, 0x80, 0, 0, 0, 0, 0, 0, 0x8b, 0x80, 0, 0, 0, 0, 0, 0x80, 0x89, 0x80, 0, 0, 0, 0, 0, 0x80, 3,
  0x80, 0, 0, 0, 0, 0, 0x80, 2, 0x80, 0, 0, 0, 0, 0, 0, 0x80, 0, 0, 0, 0, 0, 0, 0x80, 0xa, 0x80, 0, 0, 0, 0x80, 0, 0, 0xa,
  0x80, 0, 0, 0, 0x80, 0, 0x80, 0x81, 0x80, 0, 0, 0, 0, 0, 0x80, 0x80, 0, 0, 0, 0, 0x80, 0, 0, 1, 0x80, 0, 0, 0, 0x80, 0, 0x80, 8]
def rcPstep (r : Nat) (c : UInt64) (n : Nat) : UInt64 := shl c 8 ||| (UInt8.ofNat (rcBytes.getD (8 * r + n) 0)).toUInt64
def rcP (r k : Nat) : UInt64 := (List.range k).foldl (rcPstep r) 0

theorem rc_same : ∀ r, r < 24 → rcP r 8 = rcR r 7 := by decide +kernel

/- how far the lanes are turned -/
def xy : Nat → Nat × Nat
  | 0 => (1, 0)
  | t + 1 => ((xy t).2, (2 * (xy t).1 + 3 * (xy t).2) % 5)
def turnStep (l : List Nat) (t : Nat) : List Nat := l.set ((xy t).1 + 5 * (xy t).2) ((t + 1) * (t + 2) / 2 % 64)
def turnsK (k : Nat) : List Nat := (List.range k).foldl turnStep (List.replicate 25 0)
theorem xy_lt (t : Nat) : (xy t).1 < 5 ∧ (xy t).2 < 5 := by
  induction t with
  | zero => decide
  | succ t ih => exact ⟨ih.2, Nat.mod_lt _ (by decide)⟩

/- bytes into words, and back -/
def xorStep (s : List UInt64) (i : Nat) (x : UInt8) : List UInt64 := s.set (i / 8) (wx (s.getD (i / 8) 0) (shl (wid x) (8 * (i % 8))))
/-- the first k bytes of b are added to s -/
def xorB (s : List UInt64) (b : List UInt8) (k : Nat) : List UInt64 := (List.range k).foldl (fun s i => xorStep s i (b.getD i 0)) s
def sByte (s : List UInt64) (i : Nat) : UInt8 := lo8 (shr (s.getD (i / 8) 0) (8 * (i % 8)))
def toB (s : List UInt64) (n : Nat) : List UInt8 := (List.range n).map (sByte s)
theorem xorB_succ (s : List UInt64) (b : List UInt8) (k : Nat) : xorB s b (k + 1) = xorStep (xorB s b k) k (b.getD k 0) := by simp [xorB, List.range_succ]
theorem xorB_len (s : List UInt64) (b : List UInt8) (k : Nat) : (xorB s b k).length = s.length := by
  induction k with
  | zero => simp [xorB]
  | succ k ih => rw [xorB_succ]; simp [xorStep, ih]
theorem toB_len (s : List UInt64) (n : Nat) : (toB s n).length = n := by simp [toB]
end Mvp

/- word functions of the sponge -/
namespace Go.Proofs.YtdbgddngapminaaGreat
open Go.RowKit Go.Mv Mvp

theorem ret_int {k : IntKind} {a b : Int} (h : a = b) : Ending.returned (.int k a) = .returned (.int k b) := by rw [h]

theorem rot_form (x : UInt64) (k : Nat) (hk : k < 64) : wo (shl x (k % 64)) (shr x (64 - k % 64)) = rotl x k := by
  rw [Nat.mod_eq_of_lt hk]; rfl
theorem rot_any (x : UInt64) (k : Nat) (hk : k < 64) (w : World) :
    Calls Tryz.prog 138 #[.int .u64 (x.toNat : Int), .int .i64 (k : Int)] w fun e w' => e = .returned (.int .u64 ((rotl x k).toNat : Int)) ∧ w = w' := by
  go_enter Tryz.func138, Tryz.ntmps138
  go_wp2
  go_ret
  exact ⟨ret_int (by rw [← rot_form x k hk]), rfl⟩
theorem left_any (x : UInt64) (k : Nat) (hk : k < 64) (w : World) :
    Calls Tryz.prog 135 #[.int .u64 (x.toNat : Int), .int .i64 (k : Int)] w fun e w' => e = .returned (.int .u64 ((rotl x k).toNat : Int)) ∧ ∃ n, w' = w.drewN n := by
  go_enter Tryz.func135, Tryz.ntmps135
  go_wp2
  go_quiet (fail)
  go_wp2
  go_ret
  exact ⟨rfl, nq, rfl⟩
theorem place_any (x y : Int) (w : World) (hx : 0 ≤ x) (hx' : x ≤ 1000) (hy : 0 ≤ y) (hy' : y ≤ 1000) :
    Calls Tryz.prog 134 #[.int .i64 x, .int .i64 y] w fun e w' => e = .returned (.int .i64 ((place x.toNat y.toNat : Nat) : Int)) ∧ w = w' := by
  go_enter Tryz.func134, Tryz.ntmps134
  go_wp2
  go_ret
  exact ⟨ret_int (by unfold place; omega), rfl⟩
theorem goesTo_any (i : Nat) (w : World) (hi : i ≤ 1000) :
    Calls Tryz.prog 139 #[.int .i64 (i : Int)] w fun e w' => e = .returned (.int .i64 ((goesTo i : Nat) : Int)) ∧ w = w' := by
  go_enter Tryz.func139, Tryz.ntmps139
  go_wp2
  go_ret
  exact ⟨ret_int (by unfold goesTo; omega), rfl⟩
set_option maxHeartbeats 400000 in
theorem bit_any (t : Int) (w : World) (hx : 0 ≤ t) (hx' : t ≤ 1000) :
    Calls Tryz.prog 136 #[.int .i64 t] w fun e w' => e = .returned (.int .u64 ((bitW t.toNat).toNat : Int)) ∧ w = w' := by
  go_enter Tryz.func136, Tryz.ntmps136
  go_wp2
  go_loop [3, 4] (fun r i => ∃ k : Nat, (k : Int) ≤ t ∧ i = .int .i64 k ∧ r = .int .i64 (lfsr k : Nat)) (fun _ i => (t - intOf i).toNat)
  case atStart => exact ⟨0, by omega, rfl, rfl⟩
  case round =>
    obtain ⟨k, hk, rfl, rfl⟩ := hrel
    have hb := lfsr_lt k
    by_cases hlt : (k : Int) < t
    · by_cases hc : 255 < 2 * lfsr k
      · go_wp2
        go_round
        case rel =>
          refine ⟨k + 1, by omega, by go_num, ?_⟩
          have e := xor_i64 (2 * lfsr k) 369 (by omega) (by omega)
          have e2 : lfsr (k + 1) = (2 * lfsr k) ^^^ 369 := by rw [lfsr, if_pos hc]
          rw [e2, ← e]; rfl
        case measure => simp [intOf]; omega
      · go_wp2
        go_round
        case rel =>
          refine ⟨k + 1, by omega, by go_num, ?_⟩
          have e2 : lfsr (k + 1) = 2 * lfsr k := by rw [lfsr, if_neg hc]
          rw [e2]; simp
        case measure => simp [intOf]; omega
    · go_wp2
      go_ret
      have hkt : t.toNat = k := by omega
      refine ⟨ret_int ?_, rfl⟩
      have e := and_i64 (lfsr k) 1 (by omega) (by omega)
      rw [show (1 : Int) = ((1 : Nat) : Int) from rfl, e, IntKind.wrap_u64, hkt, bitW, bitR, nat_mask1]
      simp
end Go.Proofs.YtdbgddngapminaaGreat

/- the constants of the rounds, and how far the lanes are turned -/
namespace Go.Proofs.YtdbgddngapminaaGreat
open Go.RowKit Go.Mv Mvp

theorem rcP_succ (r k : Nat) : rcP r (k + 1) = rcPstep r (rcP r k) k := by simp [rcP, List.range_succ]
theorem rcR_succ (r k : Nat) : rcR r (k + 1) = rcStep r (rcR r k) k := by simp [rcR, List.range_succ]

set_option maxHeartbeats 400000 in
theorem constP_any (r : Nat) (hr : r < 24) (w : World) :
    Calls Tryz.prog 140 #[.int .i64 (r : Int)] w fun e w' => e = .returned (.int .u64 ((rcP r 8).toNat : Int)) ∧ w = w' := by
  go_enter Tryz.func140, Tryz.ntmps140
  go_wp2
  go_loop [2, 4] (fun c i => ∃ k : Nat, k ≤ 8 ∧ i = .int .i64 k ∧ c = .int .u64 ((rcP r k).toNat : Int)) (fun _ i => (8 - intOf i).toNat)
  case atStart => exact ⟨0, by omega, rfl, rfl⟩
  case round =>
    obtain ⟨k, hk, rfl, rfl⟩ := hrel
    by_cases hlt : k < 8
    · go_wp2_with (first | (with_reducible refine wl_stop (o := ⟨some 13, _, _, _, _, _⟩) ?_))
      refine wl_index_str rfl rfl Tryz.underlying9 rfl rfl (8 * r + k) (by simp) ?_ (UInt8.ofNat (rcBytes.getD (8 * r + k) 0)) ?_ ?_
      · exact Nat.lt_of_lt_of_le (show 8 * r + k < 192 by omega) (by decide +kernel)
      · generalize hj : 8 * r + k = j
        have hj' : j < 192 := by omega
        clear hj
        revert j
        decide +kernel
      generalize hy : UInt8.ofNat (rcBytes.getD (8 * r + k) 0) = y
      have HY := Lib.hid hy; clear hy
      go_wp2
      go_round
      case rel => exact ⟨k + 1, by omega, by go_num, by rw [rcP_succ, rcPstep, HY.out]; rfl⟩
      case measure => simp [intOf]; omega
    · go_wp2
      go_ret
      have : k = 8 := by omega
      subst this
      exact ⟨rfl, rfl⟩

set_option maxHeartbeats 400000 in
theorem constR_any (r : Nat) (hr : r < 24) (w : World) :
    Calls Tryz.prog 129 #[.int .i64 (r : Int)] w fun e w' => e = .returned (.int .u64 ((rcR r 7).toNat : Int)) ∧ w = w' := by
  go_enter Tryz.func129, Tryz.ntmps129
  go_wp2
  go_loop [3, 4] (fun c i => ∃ k : Nat, k ≤ 7 ∧ i = .int .i64 k ∧ c = .int .u64 ((rcR r k).toNat : Int)) (fun _ i => (7 - intOf i).toNat)
  case atStart => exact ⟨0, by omega, rfl, rfl⟩
  case round =>
    obtain ⟨k, hk, rfl, rfl⟩ := hrel
    by_cases hlt : k < 7
    · obtain rfl | rfl | rfl | rfl | rfl | rfl | rfl : k = 0 ∨ k = 1 ∨ k = 2 ∨ k = 3 ∨ k = 4 ∨ k = 5 ∨ k = 6 := by omega
      all_goals
        go_wp2_with fail
        refine (bit_any _ _ (by omega) (by omega)).mono ?_
        rintro e w' ⟨rfl, rfl⟩
        go_wp2
        go_round
      case rel => exact ⟨1, by omega, by go_num, by rw [rcR_succ, rcStep, Nat.zero_add]; rfl⟩
      case measure => simp [intOf]
      case rel => exact ⟨2, by omega, by go_num, by rw [rcR_succ, rcStep]; rfl⟩
      case measure => simp [intOf]
      case rel => exact ⟨3, by omega, by go_num, by rw [rcR_succ, rcStep]; rfl⟩
      case measure => simp [intOf]
      case rel => exact ⟨4, by omega, by go_num, by rw [rcR_succ, rcStep]; rfl⟩
      case measure => simp [intOf]
      case rel => exact ⟨5, by omega, by go_num, by rw [rcR_succ, rcStep]; rfl⟩
      case measure => simp [intOf]
      case rel => exact ⟨6, by omega, by go_num, by rw [rcR_succ, rcStep]; rfl⟩
      case measure => simp [intOf]
      case rel => exact ⟨7, by omega, by go_num, by rw [rcR_succ, rcStep]; rfl⟩
      case measure => simp [intOf]
    · go_wp2
      go_ret
      have : k = 7 := by omega
      subst this
      exact ⟨rfl, rfl⟩
end Go.Proofs.YtdbgddngapminaaGreat

/- how far the lanes are turned -/
namespace Go.Proofs.YtdbgddngapminaaGreat
open Go.RowKit Go.Mv Mvp

theorem size_a25i : (Tryz.prog.info? 176).map (·.size) = some 25 := by kernel_rfl
theorem info_int : (Tryz.prog.info? 3).map (fun i => (i.zero, i.size, i.bytes)) = some (some (.int .i64 0), 1, 8) := by kernel_rfl
theorem turnsK_succ (k : Nat) : turnsK (k + 1) = turnStep (turnsK k) k := by simp [turnsK, List.range_succ]
theorem turnsK_len (k : Nat) : (turnsK k).length = 25 := by
  induction k with
  | zero => simp [turnsK]
  | succ k ih => rw [turnsK_succ]; simp [turnStep, ih]

set_option maxHeartbeats 800000 in
theorem turns_any (w : World) :
    Calls Tryz.prog 137 #[] w fun e w' => e = .returned (.agg (is (turnsK 24)).toArray) ∧ Fr Nob w w' := by
  go_enter Tryz.func137, Tryz.ntmps137
  go_wp2
  go_loopw [1, 2, 4] (fun x y i wr => ∃ k : Nat, k ≤ 24 ∧ i = .int .i64 k ∧ x = .int .i64 ((xy k).1 : Nat) ∧ y = .int .i64 ((xy k).2 : Nat) ∧ Has wr w.heap.size (is (turnsK k)) 176 ∧ Fr Nob w wr) (fun _ _ i _ => (24 - intOf i).toNat)
  case atStart =>
    refine ⟨0, by omega, rfl, rfl, rfl, ?_, (Fr.refl _ _).alloc _⟩
    exact Has.new w _ _
  case round =>
    obtain ⟨k, hk, rfl, rfl, rfl, hh, hf⟩ := hrel
    have hxy := xy_lt k
    by_cases hlt : k < 24
    · obtain ⟨v0, hc, hfr⟩ := hh.ready (i := (xy k).1 + 5 * (xy k).2) (by rw [length_is, turnsK_len]; omega)
      have hp : (0 : Int) ≤ ((k : Int) + 1) * ((k : Int) + 2) ∧ ((k : Int) + 1) * ((k : Int) + 2) ≤ 650 := by
        refine ⟨Int.mul_nonneg (by omega) (by omega), ?_⟩
        have := Int.mul_le_mul (show (k : Int) + 1 ≤ 24 by omega) (show (k : Int) + 2 ≤ 25 by omega) (by omega) (by omega)
        omega
      go_wp2
      go_roundw
      case rel =>
        refine ⟨k + 1, by omega, by go_num, rfl, by simp [xy], ?_, hf.setCell _ _ _ _ (fun h => absurd h (Nat.lt_irrefl _))⟩
        have e : ((k : Int) + 1) * ((k : Int) + 2) / 2 % 64 = (((k + 1) * (k + 2) / 2 % 64 : Nat) : Int) := by simp
        rw [e, turnsK_succ, turnStep, ← is_set]
        exact hh.set _ _
      case measure => simp [intOf]; omega
    · go_wp2_with (first | (with_reducible refine wl_stop (o := ⟨some 27, _, _, _, _, _⟩) ?_))
      have hk24 : k = 24 := by omega
      subst hk24
      refine wl_loadA rfl rfl Tryz.underlying176 rfl hh (is (turnsK 24)) (by simp) (by rw [length_is, turnsK_len]; exact size_a25i) ?_
      go_wp2_with (first | (with_reducible refine wl_stop (o := ⟨none, .store 176 _ _, _, _, _, _⟩) ?_))
      refine wl_storeA rfl rfl rfl rfl hh (by simp) (by rw [length_is, turnsK_len]; exact size_a25i) ?_ ?_
      · intro v hv; simp [is] at hv; obtain ⟨x, _, rfl⟩ := hv; rfl
      intro w2 hh2 hf2 hz2
      go_wp2
      rw [splice_whole _ _ rfl] at hh2
      exact bodyPost_ret (results_arr rfl rfl hh2 Tryz.underlying176 (by rw [length_is, turnsK_len]; exact size_a25i)) rfl ⟨rfl, hf.new hf2 (Nat.le_refl _)⟩

set_option maxHeartbeats 800000 in
theorem offsets_any (w : World) :
    Calls Tryz.prog 127 #[] w fun e w' => e = .returned (.slice (some ⟨w.heap.size, 0, none⟩) 25 25) ∧ Has w' w.heap.size (is (turnsK 24)) 3 ∧ Fr Nob w w' := by
  go_enter Tryz.func127, Tryz.ntmps127
  go_wp2_with (at_make; refine wl_make rfl rfl Tryz.underlying168 info_int rfl rfl rfl 25 25 (by simp) (by simp) (by omega) (by omega) (by unfold maxLen; omega) ?_; intro w1 hw1 hf1 hz1)
  go_loopw [2, 3, 4] (fun x y i wr => ∃ k : Nat, k ≤ 24 ∧ i = .int .i64 k ∧ x = .int .i64 ((xy k).1 : Nat) ∧ y = .int .i64 ((xy k).2 : Nat) ∧ Has wr w.heap.size (is (turnsK k)) 3 ∧ Fr Nob w wr) (fun _ _ i _ => (24 - intOf i).toNat)
  case atStart => exact ⟨0, by omega, rfl, rfl, rfl, hw1, hf1⟩
  case round =>
    obtain ⟨k, hk, rfl, rfl, rfl, hh, hf⟩ := hrel
    have hxy := xy_lt k
    by_cases hlt : k < 24
    · have hpl : place (xy k).1 (xy k).2 = (xy k).1 + 5 * (xy k).2 := by unfold place; rw [Nat.mod_eq_of_lt hxy.1, Nat.mod_eq_of_lt hxy.2]
      have HP := Lib.hid hpl; clear hpl
      have hpb : place (xy k).1 (xy k).2 < 25 := by rw [HP.out]; omega
      obtain ⟨v0, hc, hfr⟩ := hh.ready (i := place (xy k).1 (xy k).2) (by rw [length_is, turnsK_len]; omega)
      have hp : (0 : Int) ≤ ((k : Int) + 1) * ((k : Int) + 2) ∧ ((k : Int) + 1) * ((k : Int) + 2) ≤ 650 := by
        refine ⟨Int.mul_nonneg (by omega) (by omega), ?_⟩
        have := Int.mul_le_mul (show (k : Int) + 1 ≤ 24 by omega) (show (k : Int) + 2 ≤ 25 by omega) (by omega) (by omega)
        omega
      go_wp2_with (go_at_call 134; refine (place_any _ _ _ (by omega) (by omega) (by omega) (by omega)).mono ?_; rintro e w' ⟨rfl, rfl⟩)
      go_roundw
      case rel =>
        refine ⟨k + 1, by omega, by go_num, rfl, by simp [xy], ?_, hf.setCell _ _ _ _ (fun h => absurd h (Nat.lt_irrefl _))⟩
        have e : ((k : Int) + 1) * ((k : Int) + 2) / 2 % 64 = (((k + 1) * (k + 2) / 2 % 64 : Nat) : Int) := by simp
        rw [e, turnsK_succ, turnStep, ← is_set, ← HP.out]
        exact hh.set _ _
      case measure => simp [intOf]; omega
    · go_wp2
      have hk24 : k = 24 := by omega
      subst hk24
      go_ret
      exact ⟨rfl, hh, hf⟩
end Go.Proofs.YtdbgddngapminaaGreat

/- the state: bytes are added, and given -/
namespace Go.Proofs.YtdbgddngapminaaGreat
open Go.RowKit Go.Mv Mvp

set_option maxHeartbeats 800000 in
/-- xor: the state lies at the beginning of block g -/
theorem xor_any (g : Nat) (S : List UInt64) (tail : List Value) (T : TypeId) (b : Option Addr) (n c : Nat) (l : List UInt8) (w : World) (hS : S.length = 25) (hn : n ≤ 200) (hg : Has w g (ws S ++ tail) T) (hb : RdB w b n l) (hbg : Off (One g) b) :
    Calls Tryz.prog 131 #[.pointer (some ⟨g, 0, none⟩), .slice b n c] w fun e w' => e = .returned (.tuple #[]) ∧ Has w' g (ws (xorB S l n) ++ tail) T ∧ Fr (One g) w w' ∧ w'.heap.size = w.heap.size := by
  go_enter Tryz.func131, Tryz.ntmps131
  go_wp2
  go_loopw [8] (fun i wr => ∃ k : Nat, k ≤ n ∧ i = .int .i64 k ∧ Has wr g (ws (xorB S l k) ++ tail) T ∧ Fr (One g) w wr ∧ wr.heap.size = w.heap.size) (fun i _ => (n - intOf i).toNat)
  case atStart => exact ⟨0, by omega, rfl, hg, Fr.refl _ _, rfl⟩
  case round =>
    obtain ⟨k, hk, rfl, hh, hf, hz⟩ := hrel
    by_cases hlt : k < n
    · obtain ⟨bb, o, rfl, hcb0⟩ := (hb.keep hf hbg).at (by omega)
      have hcb := hcb0 k hlt
      clear hcb0
      have hlen := xorB_len S l k
      have hi8 : k / 8 < (ws (xorB S l k)).length := by rw [length_ws, hlen]; omega
      have hc : wr.cell? ⟨g, k / 8, none⟩ = some (.int .u64 (((xorB S l k).getD (k / 8) 0).toNat : Int)) := hh.cell (by rw [List.getElem?_append_left hi8]; exact ws_get _ _ (by rw [hlen]; omega))
      have hfr : wr.frozen? ⟨g, k / 8, none⟩ = false := hh.free _ (by rw [List.length_append]; omega)
      have hlo : (0 : Int) ≤ (k : Int) / 8 ∧ (k : Int) / 8 < 25 := by omega
      generalize hy : (xorB S l k).getD (k / 8) 0 = y at hc
      generalize hx : l.getD k 0 = x at hcb
      have HY := Lib.hid hy; clear hy
      have HX := Lib.hid hx; clear hx
      have HL := Lib.hid hlen; clear hlen hi8
      have HZ := Lib.hid hz; clear hz
      go_wp2
      go_region
      all_goals go_wp2
      go_roundw
      case rel =>
        refine ⟨k + 1, by omega, by go_num, ?_, (hf.setCell _ _ _ _ (fun _ => rfl)).drew, by have := HZ.out; simpa [World.setCell] using this⟩
        have h1 := (hh.set (k / 8) (.int .u64 ((wx y (shl (wid x) (8 * (k % 8)))).toNat : Int))).drew
        rw [List.set_append_left _ _ (by rw [length_ws, HL.out]; omega), ws_set, ← HY.out, ← HX.out] at h1
        rw [xorB_succ, xorStep, ← HY.out, ← HX.out]
        exact h1
      case measure => simp [intOf]; omega
    · go_wp2
      go_end0
      have : k = n := by omega
      subst this
      exact ⟨rfl, hh, hf, hz⟩
end Go.Proofs.YtdbgddngapminaaGreat

/- the state's bytes; Permute -/
namespace Go.Proofs.YtdbgddngapminaaGreat
open Go.RowKit Go.Mv Mvp

theorem toB_at (S : List UInt64) (n i : Nat) (h : i < n) : (toB S n).getD i 0 = sByte S i := by
  simp [toB, List.getD_eq_getElem?_getD, List.getElem?_range h]

set_option maxHeartbeats 800000 in
theorem bytes_any (g : Nat) (S : List UInt64) (tail : List Value) (T : TypeId) (n : Nat) (w : World) (hS : S.length = 25) (hn : n ≤ 200) (hg : Has w g (ws S ++ tail) T) :
    Calls Tryz.prog 133 #[.pointer (some ⟨g, 0, none⟩), .int .i64 (n : Int)] w fun e w' => e = .returned (.slice (some ⟨w.heap.size, 0, none⟩) n n) ∧ Has w' w.heap.size (bs (toB S n)) 5 ∧ Fr Nob w w' ∧ w'.heap.size = w.heap.size + 1 := by
  go_enter Tryz.func133, Tryz.ntmps133
  go_wp2_with (at_make; refine wl_make rfl rfl Tryz.underlying22 info_u8 rfl rfl rfl n n rfl rfl (by omega) (by omega) (by unfold maxLen; omega) ?_; intro w1 hw1 hf1 hz1)
  have hgl := hg.lt
  go_loopw [11] (fun i wr => ∃ k : Nat, k ≤ n ∧ i = .int .i64 k ∧ Has wr w.heap.size (bs (fill (toB S n) (List.replicate n 0) k)) 5 ∧ Has wr g (ws S ++ tail) T ∧ Fr Nob w wr ∧ wr.heap.size = w.heap.size + 1) (fun i _ => (n - intOf i).toNat)
  case atStart =>
    refine ⟨0, by omega, rfl, ?_, hg.keep hf1 id, hf1, hz1⟩
    rw [fill_zero]; simpa [bs] using hw1
  case round =>
    obtain ⟨k, hk, rfl, hh, hg2, hf, hz⟩ := hrel
    by_cases hlt : k < n
    · obtain ⟨v0, hc0, hfr0⟩ := hh.ready (i := k) (by rw [length_bs, fill_length _ _ _ (by simp [toB_len])]; simpa using hlt)
      have hi8 : k / 8 < (ws S).length := by rw [length_ws, hS]; omega
      have hc : wr.cell? ⟨g, k / 8, none⟩ = some (.int .u64 ((S.getD (k / 8) 0).toNat : Int)) := hg2.cell (by rw [List.getElem?_append_left hi8]; exact ws_get _ _ (by rw [hS]; omega))
      have hlo : (0 : Int) ≤ (k : Int) / 8 ∧ (k : Int) / 8 < 25 := by omega
      generalize hy : S.getD (k / 8) 0 = y at hc
      have HY := Lib.hid hy; clear hy
      have HS := Lib.hid hS; clear hS hi8
      have HZ := Lib.hid hz; clear hz hz1 hw1
      go_wp2
      go_roundw
      case rel =>
        have e : (toB S n).getD k 0 = lo8 (shr y (8 * (k % 8))) := by rw [toB_at S n k hlt, sByte, HY.out]
        refine ⟨k + 1, by omega, by go_num, ?_, hg2.other _ _ _ (by omega), hf.setCell _ _ _ _ (fun h => absurd h (Nat.lt_irrefl _)), by have := HZ.out; simpa [World.setCell] using this⟩
        rw [← e]
        exact hh.fillB (by simp [toB_len]) (by simpa [toB_len] using hlt)
      case measure => simp [intOf]; omega
    · go_wp2
      go_ret
      obtain rfl : k = n := by omega
      rw [fill_all _ _ _ (by simp [toB_len]) (by simp [toB_len])] at hh
      exact ⟨rfl, hh, hf, hz⟩
end Go.Proofs.YtdbgddngapminaaGreat

/- the permutation of the program -/
namespace Go.Proofs.YtdbgddngapminaaGreat
open Go.RowKit Go.Mv Mvp

theorem colP_succ (s : List UInt64) (k : Nat) : colP s (k + 1) = colStep s (colP s k) k := by simp [colP, List.range_succ]
theorem colP_len (s : List UInt64) (k : Nat) : (colP s k).length = 5 := by
  induction k with
  | zero => simp [colP]
  | succ k ih => rw [colP_succ]; simp [colStep, ih]
theorem movP_succ (s c : List UInt64) (t : List Nat) (k : Nat) : movP s c t (k + 1) = movStep s c t (movP s c t k) k := by simp [movP, List.range_succ]
theorem movP_len (s c : List UInt64) (t : List Nat) (k : Nat) : (movP s c t k).length = 25 := by
  induction k with
  | zero => simp [movP]
  | succ k ih => rw [movP_succ]; simp [movStep, ih]

theorem zero_a25i : (Tryz.prog.info? 176).map (·.zero) = some (some (.agg (is (List.replicate 25 0)).toArray)) := by kernel_rfl
theorem zero_state : (Tryz.prog.info? 162).map (·.zero) = some (some (.agg (ws (List.replicate 25 0)).toArray)) := by kernel_rfl
theorem zero_a5 : (Tryz.prog.info? 178).map (·.zero) = some (some (.agg (ws (List.replicate 5 0)).toArray)) := by kernel_rfl

theorem size_u64w : (Tryz.prog.info? 30).map (·.size) = some 1 := by kernel_rfl
theorem permP_zero (t : List Nat) (rc : Nat → UInt64) (s : List UInt64) : permP t rc s 0 = s := by simp [permP]

theorem chiP_zero (m s : List UInt64) : chiP m s 0 = s := by simp [chiP]
theorem chiP_succ (m s : List UInt64) (k : Nat) : chiP m s (k + 1) = chiRow m (chiP m s k) (5 * k) 5 := by simp [chiP, List.range_succ]
theorem chiRow_zero (m s : List UInt64) (y : Nat) : chiRow m s y 0 = s := by simp [chiRow]
theorem chiRow_succ (m s : List UInt64) (y k : Nat) : chiRow m s y (k + 1) = chiStep m y (chiRow m s y k) k := by simp [chiRow, List.range_succ]
theorem chiRow_len (m s : List UInt64) (y k : Nat) : (chiRow m s y k).length = s.length := by
  induction k with
  | zero => simp [chiRow]
  | succ k ih => rw [chiRow_succ]; simp [chiStep, ih]
theorem turns_lt (k : Nat) : (turnsK 24).getD k 0 < 64 := by
  have h : ∀ k, k < 25 → (turnsK 24).getD k 0 < 64 := by decide +kernel
  rcases Nat.lt_or_ge k 25 with hk | hk
  · exact h k hk
  · rw [List.getD_eq_getElem?_getD, List.getElem?_eq_none (by rw [turnsK_len]; exact hk)]; simp
theorem goesTo_lt (k : Nat) (hk : k < 25) : goesTo k < 25 := by
  have h : ∀ k, k < 25 → goesTo k < 25 := by decide +kernel
  exact h k hk

theorem goesTo_same (k : Nat) (w : World) (hk : k ≤ 25) : Calls Tryz.prog 139 #[.int .i64 (k : Int)] w fun e w' => e = .returned (.int .i64 ((goesTo k : Nat) : Int)) ∧ w' = w :=
  (goesTo_any k w (by omega)).mono (fun _ _ h => ⟨h.1, h.2.symm⟩)
theorem rot_same (x : UInt64) (n : Nat) (hn : n < 64) (w : World) : Calls Tryz.prog 138 #[.int .u64 (x.toNat : Int), .int .i64 (n : Int)] w fun e w' => e = .returned (.int .u64 ((rotl x n).toNat : Int)) ∧ w' = w :=
  (rot_any x n hn w).mono (fun _ _ h => ⟨h.1, h.2.symm⟩)
theorem constP_same (r : Nat) (hr : r < 24) (w : World) : Calls Tryz.prog 140 #[.int .i64 (r : Int)] w fun e w' => e = .returned (.int .u64 ((rcP r 8).toNat : Int)) ∧ w' = w :=
  (constP_any r hr w).mono (fun _ _ h => ⟨h.1, h.2.symm⟩)
theorem rot1_any (x : UInt64) (w : World) : Calls Tryz.prog 138 #[.int .u64 (x.toNat : Int), .int .i64 1] w fun e w' => e = .returned (.int .u64 ((rotl x 1).toNat : Int)) ∧ w' = w :=
  (rot_any x 1 (by omega) w).mono (fun _ _ h => ⟨h.1, h.2.symm⟩)

set_option maxHeartbeats 4000000 in
set_option maxRecDepth 1000000 in
theorem permute_any (g : Nat) (S : List UInt64) (tail : List Value) (T : TypeId) (w : World) (hS : S.length = 25) (hg : Has w g (ws S ++ tail) T) :
    Calls Tryz.prog 132 #[.pointer (some ⟨g, 0, none⟩)] w fun e w' => e = .returned (.tuple #[]) ∧ Has w' g (ws (permP (turnsK 24) (fun r => rcP r 8) S 24) ++ tail) T ∧ Fr (One g) w w' := by
  go_enter Tryz.func132, Tryz.ntmps132
  go_wp2_with (first
    | (go_at_call 137; refine (turns_any _).mono ?_; rintro e w1 ⟨rfl, hf1⟩)
    | (with_reducible refine wl_stop (o := ⟨_, .alloc 176, _, _, _, _⟩) ?_))
  have hgl := hg.lt
  refine wl_alloc rfl rfl zero_a25i (is (List.replicate 25 0)) (by simp [Value.cells]) ?_
  intro w2 hb2 hf2 hz2
  have hg2 := (hg.keep hf1 id).keep hf2 id
  have hgs := hf1.size
  generalize hbt : w1.heap.size = bt at *
  go_wp2_with (with_reducible refine wl_stop (o := ⟨none, .store 176 _ _, _, _, _, _⟩) ?_)
  refine wl_storeA rfl rfl rfl rfl hb2 (by simp [length_is, turnsK_len]) (by rw [length_is, turnsK_len]; exact size_a25i) ?_ ?_
  · intro v hv; simp [is] at hv; obtain ⟨x, _, rfl⟩ := hv; rfl
  intro w3 hb3 hf3 hz3
  rw [splice_whole _ _ (by simp [length_is, turnsK_len])] at hb3
  have hg3 := hg2.keep hf3 (fun (h : g = bt) => by omega)
  have hfr : Fr (One g) w w3 := ((Fr.refl (One g) w).same hf1).same hf2 |>.new hf3 (by omega)
  clear hb2 hg2 hf1 hf2 hf3 hg
  go_wp2_with fail
  go_loopw [15] (fun i wr => ∃ r : Nat, r ≤ 24 ∧ i = .int .i64 r ∧ Has wr g (ws (permP (turnsK 24) (fun r => rcP r 8) S r) ++ tail) T ∧ Has wr bt (is (turnsK 24)) 176 ∧ Fr (One g) w wr) (fun i _ => (24 - intOf i).toNat)
  case atStart => exact ⟨0, by omega, rfl, by rw [permP_zero]; exact hg3, hb3, hfr⟩
  case round =>
    obtain ⟨r, hr, rfl, hgr, hbr, hf⟩ := hrel
    clear hg3 hb3 hfr
    by_cases hlt : r < 24
    · have hltI : (r : Int) < 24 := by omega
      have hpl := permP_len (turnsK 24) (fun r => rcP r 8) S r
      rw [hS] at hpl
      generalize hrs : permP (turnsK 24) (fun r => rcP r 8) S r = s at *
      have HR := Lib.hid hrs; clear hrs
      go_wp2_with (with_reducible refine wl_stop (o := ⟨_, .alloc 178, _, _, _, _⟩) ?_)
      refine wl_alloc rfl rfl zero_a5 (ws (List.replicate 5 0)) (by simp [Value.cells]) ?_
      intro w4 hc4 hf4 hz4
      have hg4 := hgr.keep hf4 id
      have hb4 := hbr.keep hf4 id
      have hfr4 := hf.same hf4
      have hgc := hgr.lt
      have hbc := hbr.lt
      have hwc := hf.size
      generalize wr.heap.size = gc at *
      clear hgr hbr hf hf4 hz4
      go_wp2_with fail
      go_loopw [19] (fun i wr => ∃ k : Nat, k ≤ 25 ∧ i = .int .i64 k ∧ Has wr gc (ws (colP s k)) 178 ∧ Has wr g (ws s ++ tail) T ∧ Has wr bt (is (turnsK 24)) 176 ∧ Fr (One g) w wr) (fun i _ => (25 - intOf i).toNat)
      case atStart => exact ⟨0, by omega, rfl, hc4, hg4, hb4, hfr4⟩
      case round =>
        obtain ⟨k, hk, rfl, hck, hgk, hbk, hf⟩ := hrel
        clear hc4 hg4 hb4 hfr4
        by_cases hlt2 : k < 25
        · have hs : wr.cell? ⟨g, k, none⟩ = some (.int .u64 ((s.getD k 0).toNat : Int)) := hgk.cell (by rw [List.getElem?_append_left (by rw [length_ws, hpl]; exact hlt2)]; exact ws_get _ _ (by rw [hpl]; exact hlt2))
          have hc : wr.cell? ⟨gc, k % 5, none⟩ = some (.int .u64 (((colP s k).getD (k % 5) 0).toNat : Int)) := hck.cell (ws_get _ _ (by rw [colP_len]; omega))
          have hfc : wr.frozen? ⟨gc, k % 5, none⟩ = false := hck.free _ (by rw [length_ws, colP_len]; omega)
          have hlo : (0 : Int) ≤ (k : Int) ∧ (k : Int) < 25 ∧ (0 : Int) ≤ (k : Int) % 5 ∧ (k : Int) % 5 < 5 := by omega
          generalize hx : s.getD k 0 = x at hs
          generalize hy : (colP s k).getD (k % 5) 0 = y at hc
          have HX := Lib.hid hx; clear hx
          have HY := Lib.hid hy; clear hy
          have HS := Lib.hid hpl; clear hpl
          have HS2 := Lib.hid hS; clear hS
          go_wp2
          go_region
          all_goals go_wp2
          go_roundw
          case rel =>
            have e : colP s (k + 1) = (colP s k).set (k % 5) (wx y x) := by rw [colP_succ, colStep, HX.out, HY.out]; rfl
            refine ⟨k + 1, by omega, by go_num, ?_, (hgk.other _ _ _ (by omega)).drew, (hbk.other _ _ _ (by omega)).drew, (hf.setCell _ _ _ _ (fun h => by omega)).drew⟩
            rw [e, ← ws_set]
            exact (hck.set _ _).drew
          case measure => simp [intOf]; omega
        · have hk25 : k = 25 := by omega
          subst hk25
          go_wp2_with (with_reducible refine wl_stop (o := ⟨_, .alloc 162, _, _, _, _⟩) ?_)
          refine wl_alloc rfl rfl zero_state (ws (List.replicate 25 0)) (by simp [Value.cells]) ?_
          intro w5 hm5 hf5 hz5
          have hc5 := hck.keep hf5 id
          have hg5 := hgk.keep hf5 id
          have hb5 := hbk.keep hf5 id
          have hfr5 := hf.same hf5
          have hcm := hck.lt
          have hgm := hgk.lt
          have hbm := hbk.lt
          have hwm := hf.size
          generalize wr.heap.size = gm at *
          generalize hcol : colP s 25 = col at *
          clear hck hgk hbk hf hf5 hz5
          have hcl : col.length = 5 := by rw [← hcol, colP_len]
          have HC := Lib.hid hcol; clear hcol
          have HCL := Lib.hid hcl; clear hcl
          go_wp2_with fail
          go_loopw [34] (fun i wr => ∃ k : Nat, k ≤ 25 ∧ i = .int .i64 k ∧ Has wr gm (ws (movP s col (turnsK 24) k)) 162 ∧ Has wr gc (ws col) 178 ∧ Has wr g (ws s ++ tail) T ∧ Has wr bt (is (turnsK 24)) 176 ∧ Fr (One g) w wr) (fun i _ => (25 - intOf i).toNat)
          case atStart => exact ⟨0, by omega, rfl, hm5, hc5, hg5, hb5, hfr5⟩
          case round =>
            obtain ⟨k, hk, rfl, hmk, hck, hgk, hbk, hf⟩ := hrel
            clear hm5 hc5 hg5 hb5 hfr5
            by_cases hlt3 : k < 25
            · have hs : wr.cell? ⟨g, k, none⟩ = some (.int .u64 ((s.getD k 0).toNat : Int)) := hgk.cell (by rw [List.getElem?_append_left (by rw [length_ws, hpl]; exact hlt3)]; exact ws_get _ _ (by rw [hpl]; exact hlt3))
              have hc4 : wr.cell? ⟨gc, (k + 4) % 5, none⟩ = some (.int .u64 ((col.getD ((k + 4) % 5) 0).toNat : Int)) := hck.cell (ws_get _ _ (by rw [HCL.out]; omega))
              have hc1 : wr.cell? ⟨gc, (k + 1) % 5, none⟩ = some (.int .u64 ((col.getD ((k + 1) % 5) 0).toNat : Int)) := hck.cell (ws_get _ _ (by rw [HCL.out]; omega))
              have hby : wr.cell? ⟨bt, k, none⟩ = some (.int .i64 (((turnsK 24).getD k 0 : Nat) : Int)) := hbk.cell (is_get _ _ (by rw [turnsK_len]; exact hlt3))
              have hbl : (turnsK 24).getD k 0 < 64 := turns_lt k
              have hgt : goesTo k < 25 := goesTo_lt k hlt3
              obtain ⟨v0, hcm0, hfm0⟩ := hmk.ready (i := goesTo k) (by rw [length_ws, movP_len]; exact hgt)
              have hlo : (0 : Int) ≤ (k : Int) ∧ (k : Int) < 25 ∧ (0 : Int) ≤ ((k : Int) + 4) % 5 ∧ ((k : Int) + 4) % 5 < 5 ∧ (0 : Int) ≤ ((k : Int) + 1) % 5 ∧ ((k : Int) + 1) % 5 < 5 := by omega
              generalize hx : s.getD k 0 = x at hs
              generalize hy4 : col.getD ((k + 4) % 5) 0 = y4 at hc4
              generalize hy1 : col.getD ((k + 1) % 5) 0 = y1 at hc1
              generalize hn : (turnsK 24).getD k 0 = n at hby hbl
              have HX := Lib.hid hx; clear hx
              have HY4 := Lib.hid hy4; clear hy4
              have HY1 := Lib.hid hy1; clear hy1
              have HN := Lib.hid hn; clear hn
              have HS := Lib.hid hpl; clear hpl
              have HS2 := Lib.hid hS; clear hS
              go_wp2
              go_region
              all_goals go_wp2
              have e1 : IntKind.i64.wrap ((k : Int) + 4) = (k : Int) + 4 := IntWalk.i64_in _ (by omega)
              have e2 : ((k : Int) + 4).tmod 5 = ((k : Int) + 4) % 5 := Int.tmod_eq_emod_of_nonneg (by omega)
              have e3 : (((k : Int) + 4) % 5).toNat = (k + 4) % 5 := by omega
              have e4 : IntKind.i64.wrap ((k : Int) + 1) = (k : Int) + 1 := IntWalk.i64_in _ (by omega)
              have e5 : ((k : Int) + 1).tmod 5 = ((k : Int) + 1) % 5 := Int.tmod_eq_emod_of_nonneg (by omega)
              have e6 : (((k : Int) + 1) % 5).toNat = (k + 1) % 5 := by omega
              go_quiet ((go_at_call 138; exact quiet_more (rot1_any _ _)))
              clear e1 e2 e3 e4 e5 e6
              go_wp2_with fail
              have HG := Lib.hid hgt; clear hgt
              have hgi : (0 : Int) ≤ (goesTo k : Int) ∧ (goesTo k : Int) < 25 := by have := HG.out; omega
              have hmz := hmk.drew.drewN nq
              have hcz := hck.drew.drewN nq
              have hgz := hgk.drew.drewN nq
              have hbz := hbk.drew.drewN nq
              have hfz := hf.drew.drewN nq
              have hbyz : (wr.drew.drewN nq).cell? ⟨bt, k, none⟩ = some (.int .i64 (n : Int)) := hby
              have hmcz : (wr.drew.drewN nq).cell? ⟨gm, goesTo k, none⟩ = some v0 := hcm0
              have hmfz : (wr.drew.drewN nq).frozen? ⟨gm, goesTo k, none⟩ = false := hfm0
              clear hmk hck hgk hbk hf hby hcm0 hfm0 hs hc4 hc1
              generalize wr.drew.drewN nq = wz at *
              clear wr
              refine wp_region_still_tail 8 (by kernel_rfl) (by kernel_rfl) ?_
              simp only [List.take_succ_cons, List.take_zero, List.drop_succ_cons, List.drop_zero]
              repeat still_step
              still_call (goesTo_same k _ hk)
              repeat still_step
              still_call (rot_same _ n hbl _)
              repeat still_step
              refine wpStill_nil ?_
              go_wp2
              go_roundw
              case rel =>
                have e : movP s col (turnsK 24) (k + 1) = (movP s col (turnsK 24) k).set (goesTo k) (rotl (wx x (wx y4 (rotl y1 1))) n) := by
                  rw [movP_succ, movStep, HX.out, HY4.out, HY1.out, HN.out]; rfl
                refine ⟨k + 1, by omega, by go_num, ?_, (hcz.other _ _ _ (by omega)).drew, (hgz.other _ _ _ (by omega)).drew, (hbz.other _ _ _ (by omega)).drew, (hfz.setCell _ _ _ _ (fun h => by omega)).drew⟩
                rw [e, ← ws_set]
                exact (hmz.set _ _).drew
              case measure => simp [intOf]; omega
            · obtain rfl : k = 25 := by omega
              have hml := movP_len s col (turnsK 24) 25
              have hmw : movP s col (turnsK 24) 25 = movP s (colP s 25) (turnsK 24) 25 := by rw [HC.out]
              generalize hmv : movP s col (turnsK 24) 25 = mv at *
              have HM := Lib.hid hmw; clear hmw hmv
              have HML := Lib.hid hml; clear hml
              have HPL := Lib.hid hpl; clear hpl
              have HS2 := Lib.hid hS; clear hS
              clear hck
              go_wp2_with fail
              go_loopw [10] (fun i wr => ∃ j : Nat, j ≤ 5 ∧ i = .int .i64 ((5 * j : Nat) : Int) ∧ Has wr gm (ws mv) 162 ∧ Has wr g (ws (chiP mv s j) ++ tail) T ∧ Has wr bt (is (turnsK 24)) 176 ∧ Fr (One g) w wr) (fun i _ => (25 - intOf i).toNat)
              case atStart => exact ⟨0, by omega, rfl, hmk, by rw [chiP_zero]; exact hgk, hbk, hf⟩
              case round =>
                obtain ⟨j, hj, rfl, hmj, hgj, hbj, hfj⟩ := hrel
                clear hmk hgk hbk hf
                by_cases hlt4 : j < 5
                · have hlo : (0 : Int) ≤ 5 * (j : Int) ∧ 5 * (j : Int) < 25 ∧ 5 * (j : Int) ≤ 20 := by omega
                  obtain ⟨wo, rfl⟩ : ∃ wo : World, wo = wr := ⟨_, rfl⟩
                  go_wp2_with (with_reducible refine wl_stop (o := ⟨some 72, _, _, _, _, _⟩) ?_)
                  refine wl_cutA rfl rfl Tryz.underlying162 size_u64w rfl rfl rfl rfl (5 * j) (5 * j + 5) (5 * j + 5) (by simp) (by simp) (by simp) (by omega) (by omega) (by omega) (by omega) ?_
                  have e5 : 5 * j + 5 - 5 * j = 5 := by omega
                  rw [e5]
                  clear e5
                  go_wp2_with fail
                  go_loopw [75] (fun i wr => ∃ x : Nat, x ≤ 5 ∧ i = .int .i64 x ∧ Has wr gm (ws mv) 162 ∧ Has wr g (ws (chiRow mv (chiP mv s j) (5 * j) x) ++ tail) T ∧ Has wr bt (is (turnsK 24)) 176 ∧ Fr (One g) w wr) (fun i _ => (5 - intOf i).toNat)
                  case atStart => exact ⟨0, by omega, rfl, hmj, by rw [chiRow_zero]; exact hgj, hbj, hfj⟩
                  case round =>
                    obtain ⟨x, hx, rfl, hmx, hgx, hbx, hfx⟩ := hrel
                    clear hmj hgj hbj hfj
                    by_cases hlt5 : x < 5
                    · have hml : mv.length = 25 := HML.out
                      have hsl : (chiRow mv (chiP mv s j) (5 * j) x).length = 25 := by rw [chiRow_len, chiP_len]; exact HPL.out
                      have hx0 : wr.cell? ⟨gm, 5 * j + x, none⟩ = some (.int .u64 ((mv.getD (5 * j + x) 0).toNat : Int)) := hmx.cell (ws_get _ _ (by omega))
                      have hx1 : wr.cell? ⟨gm, 5 * j + (x + 1) % 5, none⟩ = some (.int .u64 ((mv.getD (5 * j + (x + 1) % 5) 0).toNat : Int)) := hmx.cell (ws_get _ _ (by omega))
                      have hx2 : wr.cell? ⟨gm, 5 * j + (x + 2) % 5, none⟩ = some (.int .u64 ((mv.getD (5 * j + (x + 2) % 5) 0).toNat : Int)) := hmx.cell (ws_get _ _ (by omega))
                      obtain ⟨v0, hc0, hf0⟩ := hgx.ready (i := 5 * j + x) (by rw [List.length_append, length_ws, hsl]; omega)
                      have hlo5 : (0 : Int) ≤ (x : Int) ∧ (x : Int) < 5 ∧ (0 : Int) ≤ ((x : Int) + 1) % 5 ∧ ((x : Int) + 1) % 5 < 5 ∧ (0 : Int) ≤ ((x : Int) + 2) % 5 ∧ ((x : Int) + 2) % 5 < 5 := by omega
                      have hlo6 : (0 : Int) ≤ 5 * (j : Int) + (x : Int) ∧ 5 * (j : Int) + (x : Int) < 25 := by omega
                      generalize hy0 : mv.getD (5 * j + x) 0 = y0 at hx0
                      generalize hy1 : mv.getD (5 * j + (x + 1) % 5) 0 = y1 at hx1
                      generalize hy2 : mv.getD (5 * j + (x + 2) % 5) 0 = y2 at hx2
                      have HY0 := Lib.hid hy0; clear hy0
                      have HY1 := Lib.hid hy1; clear hy1
                      have HY2 := Lib.hid hy2; clear hy2
                      have HSL := Lib.hid hsl; clear hsl hml
                      go_wp2_with fail
                      have e1 : IntKind.i64.wrap ((x : Int) + 1) = (x : Int) + 1 := IntWalk.i64_in _ (by omega)
                      have e2 : ((x : Int) + 1).tmod 5 = ((x : Int) + 1) % 5 := Int.tmod_eq_emod_of_nonneg (by omega)
                      have e3 : (((x : Int) + 1) % 5).toNat = (x + 1) % 5 := by omega
                      have e4 : IntKind.i64.wrap ((x : Int) + 2) = (x : Int) + 2 := IntWalk.i64_in _ (by omega)
                      have e5 : ((x : Int) + 2).tmod 5 = ((x : Int) + 2) % 5 := Int.tmod_eq_emod_of_nonneg (by omega)
                      have e6 : (((x : Int) + 2) % 5).toNat = (x + 2) % 5 := by omega
                      have e7 : IntKind.i64.wrap (5 * (j : Int) + (x : Int)) = 5 * (j : Int) + (x : Int) := IntWalk.i64_in _ (by omega)
                      have e8 : (5 * (j : Int) + (x : Int)).toNat = 5 * j + x := by omega
                      refine wp_region_still_tail 22 (by kernel_rfl) (by kernel_rfl) ?_
                      simp only [List.take_succ_cons, List.take_zero, List.drop_succ_cons, List.drop_zero]
                      repeat still_step
                      refine wpStill_nil ?_
                      go_wp2
                      go_roundw
                      case rel =>
                        have e : chiRow mv (chiP mv s j) (5 * j) (x + 1) = (chiRow mv (chiP mv s j) (5 * j) x).set (5 * j + x) (wx y0 (wa (wn y1) y2)) := by
                          rw [chiRow_succ, chiStep, HY0.out, HY1.out, HY2.out]; rfl
                        refine ⟨x + 1, by omega, by go_num, (hmx.other _ _ _ (by omega)).drew, ?_, (hbx.other _ _ _ (by omega)).drew, (hfx.setCell _ _ _ _ (fun _ => rfl)).drew⟩
                        rw [e, ← ws_set, ← List.set_append_left _ _ (by rw [length_ws, HSL.out]; omega)]
                        exact (hgx.set _ _).drew
                      case measure => simp [intOf]; omega
                    · have hge : ¬ ((x : Int) < 5) := by omega
                      have hx5 : x = 5 := by omega
                      have HX5 := Lib.hid hx5; clear hx5
                      go_wp2_with fail
                      go_roundw
                      case rel => exact ⟨j + 1, by omega, by omega, by rw [chiP_succ]; rw [HX5.out] at hgx; exact hgx⟩
                      case measure => simp [intOf]; omega
                · have hge : ¬ (5 * (j : Int) < 25) := by omega
                  have hj5 : j = 5 := by omega
                  have HJ5 := Lib.hid hj5; clear hj5
                  have hsl : (chiP mv s j).length = 25 := by rw [chiP_len]; exact HPL.out
                  have hc0 : wr.cell? ⟨g, 0, none⟩ = some (.int .u64 (((chiP mv s j).getD 0 0).toNat : Int)) := hgj.cell (by rw [List.getElem?_append_left (by rw [length_ws, hsl]; omega)]; exact ws_get _ _ (by rw [hsl]; omega))
                  have hf0 : wr.frozen? ⟨g, 0, none⟩ = false := hgj.free _ (by rw [List.length_append, length_ws, hsl]; omega)
                  generalize hy : (chiP mv s j).getD 0 0 = y at hc0
                  have HY := Lib.hid hy; clear hy
                  have HSL := Lib.hid hsl; clear hsl
                  go_wp2_with fail
                  refine wp_region_still_tail 9 (by kernel_rfl) (by kernel_rfl) ?_
                  simp only [List.take_succ_cons, List.take_zero, List.drop_succ_cons, List.drop_zero]
                  repeat still_step
                  still_call (constP_same r hlt _)
                  repeat still_step
                  refine wpStill_nil ?_
                  go_wp2
                  go_roundw
                  case rel =>
                    have e : permP (turnsK 24) (fun r => rcP r 8) S (r + 1) = (chiP mv s j).set 0 (wx y (rcP r 8)) := by
                      rw [permP_succ, HR.out, roundP, ← HM.out, ← HJ5.out, HY.out]; rfl
                    refine ⟨r + 1, by omega, by go_num, ?_, (hbj.other _ _ _ (by omega)).drew, (hfj.setCell _ _ _ _ (fun _ => rfl)).drew⟩
                    rw [e, ← ws_set, ← List.set_append_left _ _ (by rw [length_ws, HSL.out]; omega)]
                    exact (hgj.set _ _).drew
                  case measure => simp [intOf]; omega
    · obtain rfl : r = 24 := by omega
      go_wp2_with fail
      go_end0
      exact ⟨rfl, hgr, hf⟩
end Go.Proofs.YtdbgddngapminaaGreat
