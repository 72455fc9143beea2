/- ; ; ; ; ; ; ; ; ; ; ; ; ; . -/
import Derived.Test.YtemcankmggmgoaaGreatDoorMgKeysSetsProof8
import Derived.Test.YtemcankmggmgoaaGreatDoorMgKeysSetsProof5
import Derived.Test.YtemcankmggmgoaaGreatDoorMgKeysSetsProof3
import Derived.Test.YtemcankmggmgoaaGreatDoorMgKeysSetsProof6
import Derived.Test.YtemcankmggmgoaaGreatDoorMgKeysSetsProof2
import Derived.Test.YtemcankmggmgoaaGreatDoorMgKeysSetsProof7
import Derived.Test.YtemcankmggmgoaaGreatDoorMgKeysSetsProof1
import Derived.IntWalk
import Derived.Deep.DeepCutAuto
set_option maxHeartbeats 16000000
set_option maxRecDepth 1000000

namespace Go.Proofs.YtemcankmggmgoaaGreatDoor
section
open Go.RowKit Go.Mv Mvp Mvq
def rpL (x y z : K) : List Value := cw 4 (kN x) ++ (cw 4 (kN y) ++ cw 4 (kN z))
def rpV (x y z : K) : Value := .agg (rpL x y z).toArray
theorem w0X : kN 0 = 0 := rfl
theorem j0I (a b c : Nat) : Tryz.prog.built 54 [(0, i4 a), (1, i4 b), (2, i4 c)] = some (cw 4 a ++ (cw 4 b ++ cw 4 c)).toArray := by kernel_rfl
theorem r0V (b : Nat) : Tryz.prog.built 54 [(1, i4 b)] = some (cw 4 0 ++ (cw 4 b ++ cw 4 0)).toArray := by kernel_rfl
theorem e0I : (Tryz.prog.info? 50).map (·.zero) = some (some (.agg (cw 4 0).toArray)) := by kernel_rfl
attribute [local irreducible] a0J lw mix cw b0t b0G b0q a0P a0u beN laid b0o b0H a0M a0V elN mdL b0R rtV c0E kN kc c0k d0U
theorem l0u (w : World) : Calls Tryz.prog 82 #[] w fun e w' => e = .returned (rpV 0 1 0) ∧ Fr Nob w w' := by
 have st0 := St.start Nob w
 go_enter Tryz.func82, Tryz.ntmps82
 go_wp2_with (with_reducible refine wSk 0 ?_)
 refine a0b st0 rfl rfl (z := zAc) (by kernel_rfl) (cw 12 0) (by rw [a0f]; rfl) ?_
 intro g0 w1 st1
 clear st0
 go_wp2_with fail
 refine (r0T _).mono ?_
 rintro e' w2 ⟨rfl, hf2⟩
 have st2 := st1.keep hf2
 clear st1 hf2
 go_wp2_with (with_reducible refine wSk 2 ?_)
 refine c0f rfl rfl _ (r0V _) ?_
 go_wp2_with (with_reducible refine wSn ?_)
 refine a0d st2 0 rfl rfl rfl rfl rfl (by simp [a0a]) (by kernel_rfl) (a0Z _ _ _) ?_
 intro w3 st3
 clear st2
 have hr := st3.at 0 rfl
 have hfr := st3.fr
 clear st3
 go_wp2_with fail
 exact bodyPost_ret (a0F rfl rfl hr Tryz.underlying54 rfl (by kernel_rfl)) rfl ⟨by unfold rpV rpL; rw [w0X], hfr⟩
theorem d0c (x y z : K) (b : Bool) (hb : decide (z = 0) = b) (w : World) : Calls Tryz.prog 44 #[rpV x y z] w fun e w' => e = .returned (.bool b) ∧ Fr Nob w w' := by
 have HB := qH hb
 clear hb
 unfold rpV rpL
 have st0 := St.start Nob w
 go_enter Tryz.func44, Tryz.ntmps44
 go_wp2_with (with_reducible refine wSk 1 ?_)
 refine a0m st0 rfl rfl rfl (cw 4 (kN x) ++ (cw 4 (kN y) ++ cw 4 (kN z))) rfl ?_
 intro g1 w1 st1
 clear st0
 go_wp2_with (with_reducible refine wSk 4 ?_)
 refine b0E rfl rfl Tryz.underlying50 rfl (st1.at 0 rfl) (cw 4 (kN z)) (f0g _ _ _) (by kernel_rfl) ?_
 go_wp2_with fail
 refine (y0J z b HB.out _).mono ?_
 rintro e' w2 ⟨rfl, hf2⟩
 have st2 := st1.keep hf2
 clear st1 hf2
 have hfr := st2.fr
 clear st2
 go_wp2_with fail
 go_ret
 exact ⟨rfl, hfr⟩
theorem r0W (x y z : K) (xx d1 d y2 ee e2 e3 t1 t2 x2 t3 t X s1 s2 s3 s4 Y Z : K) (exx : x * x = xx) (ed1 : xx + xx = d1) (ed : d1 + xx = d) (ey2 : y + y = y2) (eee : y2 * z = ee) (ee2 : ee * ee = e2) (ee3 : e2 * ee = e3) (et1 : d * d = t1) (et2 : t1 * z = t2) (ex2 : x + x = x2) (et3 : x2 * e2 = t3) (et : t2 - t3 = t) (eX : ee * t = X) (es1 : x * e2 = s1) (es2 : s1 - t = s2) (es3 : d * s2 = s3) (es4 : y * e3 = s4) (eY : s3 - s4 = Y) (eZ : e3 * z = Z) (w : World) : Calls Tryz.prog 111 #[rpV x y z] w fun e w' => e = .returned (rpV X Y Z) ∧ Fr Nob w w' := by
 have Hxx := qH exx
 have Hd1 := qH ed1
 have Hd := qH ed
 have Hy2 := qH ey2
 have Hee := qH eee
 have He2 := qH ee2
 have He3 := qH ee3
 have Ht1 := qH et1
 have Ht2 := qH et2
 have Hx2 := qH ex2
 have Ht3 := qH et3
 have Ht := qH et
 have HX := qH eX
 have Hs1 := qH es1
 have Hs2 := qH es2
 have Hs3 := qH es3
 have Hs4 := qH es4
 have HY := qH eY
 have HZ := qH eZ
 clear exx ed1 ed ey2 eee ee2 ee3 et1 et2 ex2 et3 et eX es1 es2 es3 es4 eY eZ
 unfold rpV rpL
 have st0 := St.start Nob w
 go_enter Tryz.func111, Tryz.ntmps111
 go_wp2_with (with_reducible refine wSk 1 ?_)
 refine a0m st0 rfl rfl rfl (cw 4 (kN x) ++ (cw 4 (kN y) ++ cw 4 (kN z))) rfl ?_
 intro g1 w1 st1
 clear st0
 go_wp2_with (with_reducible refine wSk 2 ?_)
 refine a0b st1 rfl rfl (z := zAc) (by kernel_rfl) (cw 12 0) (by rw [a0f]; rfl) ?_
 intro g2 w2 st2
 clear st1
 go_wp2_with fail
 refine wp_region_noPanic ?_
 refine a0g st2 7 [.o 6, .w 1, .t 2, .w 3, .t 4, .c 0, .c 5, .j 6] (.m 7 .nil) (by kernel_rfl) (by kernel_rfl) (fun _ _ _ _ _ h => h) ?_
 clear st2
 refine b0e rfl rfl rfl e0I (cw 4 0) rfl ?_
 try simp only [clL]
 refine a0n (v := ?_) rfl rfl (fun xq wx => ?_) ?_; rotate_left 1; · (go_simp; with_reducible rfl)
 try simp only [clL]
 refine a0e rfl rfl rfl (fun _ => rfl) (cw 4 (kN x)) (fun wx hS => St.rangeL hS 0 rfl 0 _ (j0M _ _ _)) Tryz.underlying50 rfl (by kernel_rfl) ?_
 try simp only [clL]
 refine a0n (v := ?_) rfl rfl (fun xq wx => ?_) ?_; rotate_left 1; · (go_simp; with_reducible rfl)
 try simp only [clL]
 refine a0e rfl rfl rfl (fun _ => rfl) (cw 4 (kN x)) (fun wx hS => St.rangeL hS 0 rfl 0 _ (j0M _ _ _)) Tryz.underlying50 rfl (by kernel_rfl) ?_
 try simp only [clL]
 refine a0c rfl rfl rfl Tryz.call45 (fun w hS hR => a0K _) (fun _ => rfl) ?_
 try simp only [clL]
 refine a0c rfl rfl rfl Tryz.call47 (fun w hS hR => d0T x x xx Hxx.out _) (fun _ => rfl) ?_
 try simp only [clL]
 refine b0f List.mem_cons_self fun g3 => ?_
 simp only [upd, reduceIte]
 refine a0y fun xq w3 st3 hR => ?_
 try dsimp only
 clear hR xq
 refine a0r rfl rfl ?_
 refine a0j st3 2 rfl rfl rfl rfl (by simp [a0a]) (by kernel_rfl) (a0i _ _) ?_
 intro w4 st4
 repeat (first | simp only [List.cons_append] at st4 | simp only [List.nil_append] at st4 | simp only [List.set_cons_succ] at st4 | simp only [List.set_cons_zero] at st4)
 clear st3
 try simp only [Act.put]
 refine a0k ?_
 refine NoPanic.normal ?_
 go_wp2_with fail
 refine wp_region_noPanic ?_
 refine a0g st4 8 [.o 7, .t 2, .t 3, .t 5, .c 0, .c 1, .c 4, .c 6, .j 7] (.m 8 .nil) (by kernel_rfl) (by kernel_rfl) (fun _ _ _ _ _ h => h) ?_
 clear st4
 refine b0e rfl rfl rfl e0I (cw 4 0) rfl ?_
 try simp only [clL]
 refine a0e rfl rfl rfl (fun _ => rfl) (cw 4 (kN xx)) (fun wx hS => St.rangeL hS 2 rfl 0 _ dZl) Tryz.underlying50 rfl (by kernel_rfl) ?_
 try simp only [clL]
 refine a0e rfl rfl rfl (fun _ => rfl) (cw 4 (kN xx)) (fun wx hS => St.rangeL hS 2 rfl 0 _ dZl) Tryz.underlying50 rfl (by kernel_rfl) ?_
 try simp only [clL]
 refine a0e rfl rfl rfl (fun _ => rfl) (cw 4 (kN xx)) (fun wx hS => St.rangeL hS 2 rfl 0 _ dZl) Tryz.underlying50 rfl (by kernel_rfl) ?_
 try simp only [clL]
 refine a0c rfl rfl rfl Tryz.call45 (fun w hS hR => a0K _) (fun _ => rfl) ?_
 try simp only [clL]
 refine a0c rfl rfl rfl Tryz.call45 (fun w hS hR => a0K _) (fun _ => rfl) ?_
 try simp only [clL]
 refine a0c rfl rfl rfl Tryz.call113 (fun w hS hR => x0p xx xx d1 Hd1.out _) (fun _ => rfl) ?_
 try simp only [clL]
 refine a0c rfl rfl rfl Tryz.call113 (fun w hS hR => x0p d1 xx d Hd.out _) (fun _ => rfl) ?_
 try simp only [clL]
 refine b0f List.mem_cons_self fun g4 => ?_
 simp only [upd, reduceIte]
 refine a0y fun xq w5 st5 hR => ?_
 try dsimp only
 clear hR xq
 refine a0r rfl rfl ?_
 refine a0j st5 3 rfl rfl rfl rfl (by simp [a0a]) (by kernel_rfl) (a0i _ _) ?_
 intro w6 st6
 repeat (first | simp only [List.cons_append] at st6 | simp only [List.nil_append] at st6 | simp only [List.set_cons_succ] at st6 | simp only [List.set_cons_zero] at st6)
 clear st5
 try simp only [Act.put]
 refine a0k ?_
 refine NoPanic.normal ?_
 go_wp2_with fail
 refine wp_region_noPanic ?_
 refine a0g st6 11 [.o 10, .w 2, .t 3, .w 4, .t 5, .w 7, .t 8, .c 0, .c 1, .c 6, .c 9, .j 10] (.m 11 .nil) (by kernel_rfl) (by kernel_rfl) (fun _ _ _ _ _ h => h) ?_
 clear st6
 refine b0e rfl rfl rfl e0I (cw 4 0) rfl ?_
 try simp only [clL]
 refine a0n (v := ?_) rfl rfl (fun xq wx => ?_) ?_; rotate_left 1; · (go_simp; with_reducible rfl)
 try simp only [clL]
 refine a0e rfl rfl rfl (fun _ => rfl) (cw 4 (kN y)) (fun wx hS => St.rangeL hS 0 rfl 4 _ (l0A _ _ _)) Tryz.underlying50 rfl (by kernel_rfl) ?_
 try simp only [clL]
 refine a0n (v := ?_) rfl rfl (fun xq wx => ?_) ?_; rotate_left 1; · (go_simp; with_reducible rfl)
 try simp only [clL]
 refine a0e rfl rfl rfl (fun _ => rfl) (cw 4 (kN y)) (fun wx hS => St.rangeL hS 0 rfl 4 _ (l0A _ _ _)) Tryz.underlying50 rfl (by kernel_rfl) ?_
 try simp only [clL]
 refine a0n (v := ?_) rfl rfl (fun xq wx => ?_) ?_; rotate_left 1; · (go_simp; with_reducible rfl)
 try simp only [clL]
 refine a0e rfl rfl rfl (fun _ => rfl) (cw 4 (kN z)) (fun wx hS => St.rangeL hS 0 rfl 8 _ (f0g _ _ _)) Tryz.underlying50 rfl (by kernel_rfl) ?_
 try simp only [clL]
 refine a0c rfl rfl rfl Tryz.call45 (fun w hS hR => a0K _) (fun _ => rfl) ?_
 try simp only [clL]
 refine a0c rfl rfl rfl Tryz.call45 (fun w hS hR => a0K _) (fun _ => rfl) ?_
 try simp only [clL]
 refine a0c rfl rfl rfl Tryz.call113 (fun w hS hR => x0p y y y2 Hy2.out _) (fun _ => rfl) ?_
 try simp only [clL]
 refine a0c rfl rfl rfl Tryz.call47 (fun w hS hR => d0T y2 z ee Hee.out _) (fun _ => rfl) ?_
 try simp only [clL]
 refine b0f List.mem_cons_self fun g5 => ?_
 simp only [upd, reduceIte]
 refine a0y fun xq w7 st7 hR => ?_
 try dsimp only
 clear hR xq
 refine a0r rfl rfl ?_
 refine a0j st7 4 rfl rfl rfl rfl (by simp [a0a]) (by kernel_rfl) (a0i _ _) ?_
 intro w8 st8
 repeat (first | simp only [List.cons_append] at st8 | simp only [List.nil_append] at st8 | simp only [List.set_cons_succ] at st8 | simp only [List.set_cons_zero] at st8)
 clear st7
 try simp only [Act.put]
 refine a0k ?_
 refine NoPanic.normal ?_
 go_wp2_with fail
 refine wp_region_noPanic ?_
 refine a0g st8 5 [.o 4, .t 1, .t 2, .c 0, .c 3, .j 4] (.m 5 .nil) (by kernel_rfl) (by kernel_rfl) (fun _ _ _ _ _ h => h) ?_
 clear st8
 refine b0e rfl rfl rfl e0I (cw 4 0) rfl ?_
 try simp only [clL]
 refine a0e rfl rfl rfl (fun _ => rfl) (cw 4 (kN ee)) (fun wx hS => St.rangeL hS 4 rfl 0 _ dZl) Tryz.underlying50 rfl (by kernel_rfl) ?_
 try simp only [clL]
 refine a0e rfl rfl rfl (fun _ => rfl) (cw 4 (kN ee)) (fun wx hS => St.rangeL hS 4 rfl 0 _ dZl) Tryz.underlying50 rfl (by kernel_rfl) ?_
 try simp only [clL]
 refine a0c rfl rfl rfl Tryz.call45 (fun w hS hR => a0K _) (fun _ => rfl) ?_
 try simp only [clL]
 refine a0c rfl rfl rfl Tryz.call47 (fun w hS hR => d0T ee ee e2 He2.out _) (fun _ => rfl) ?_
 try simp only [clL]
 refine b0f List.mem_cons_self fun g6 => ?_
 simp only [upd, reduceIte]
 refine a0y fun xq w9 st9 hR => ?_
 try dsimp only
 clear hR xq
 refine a0r rfl rfl ?_
 refine a0j st9 5 rfl rfl rfl rfl (by simp [a0a]) (by kernel_rfl) (a0i _ _) ?_
 intro w10 st10
 repeat (first | simp only [List.cons_append] at st10 | simp only [List.nil_append] at st10 | simp only [List.set_cons_succ] at st10 | simp only [List.set_cons_zero] at st10)
 clear st9
 try simp only [Act.put]
 refine a0k ?_
 refine NoPanic.normal ?_
 go_wp2_with fail
 refine wp_region_noPanic ?_
 refine a0g st10 5 [.o 4, .t 1, .t 2, .c 0, .c 3, .j 4] (.m 5 .nil) (by kernel_rfl) (by kernel_rfl) (fun _ _ _ _ _ h => h) ?_
 clear st10
 refine b0e rfl rfl rfl e0I (cw 4 0) rfl ?_
 try simp only [clL]
 refine a0e rfl rfl rfl (fun _ => rfl) (cw 4 (kN e2)) (fun wx hS => St.rangeL hS 5 rfl 0 _ dZl) Tryz.underlying50 rfl (by kernel_rfl) ?_
 try simp only [clL]
 refine a0e rfl rfl rfl (fun _ => rfl) (cw 4 (kN ee)) (fun wx hS => St.rangeL hS 4 rfl 0 _ dZl) Tryz.underlying50 rfl (by kernel_rfl) ?_
 try simp only [clL]
 refine a0c rfl rfl rfl Tryz.call45 (fun w hS hR => a0K _) (fun _ => rfl) ?_
 try simp only [clL]
 refine a0c rfl rfl rfl Tryz.call47 (fun w hS hR => d0T e2 ee e3 He3.out _) (fun _ => rfl) ?_
 try simp only [clL]
 refine b0f List.mem_cons_self fun g7 => ?_
 simp only [upd, reduceIte]
 refine a0y fun xq w11 st11 hR => ?_
 try dsimp only
 clear hR xq
 refine a0r rfl rfl ?_
 refine a0j st11 6 rfl rfl rfl rfl (by simp [a0a]) (by kernel_rfl) (a0i _ _) ?_
 intro w12 st12
 repeat (first | simp only [List.cons_append] at st12 | simp only [List.nil_append] at st12 | simp only [List.set_cons_succ] at st12 | simp only [List.set_cons_zero] at st12)
 clear st11
 try simp only [Act.put]
 refine a0k ?_
 refine NoPanic.normal ?_
 go_wp2_with fail
 refine wp_region_noPanic ?_
 refine a0g st12 20 [.o 19, .t 3, .t 4, .w 6, .t 7, .w 11, .t 12, .w 13, .t 14, .t 16, .c 0, .c 1, .c 2, .c 5, .c 8, .c 9, .c 10, .c 15, .c 17, .c 18, .j 19] (.m 20 .nil) (by kernel_rfl) (by kernel_rfl) (fun _ _ _ _ _ h => h) ?_
 clear st12
 refine b0e rfl rfl rfl e0I (cw 4 0) rfl ?_
 try simp only [clL]
 refine a0e rfl rfl rfl (fun _ => rfl) (cw 4 (kN d)) (fun wx hS => St.rangeL hS 3 rfl 0 _ dZl) Tryz.underlying50 rfl (by kernel_rfl) ?_
 try simp only [clL]
 refine a0e rfl rfl rfl (fun _ => rfl) (cw 4 (kN d)) (fun wx hS => St.rangeL hS 3 rfl 0 _ dZl) Tryz.underlying50 rfl (by kernel_rfl) ?_
 try simp only [clL]
 refine a0n (v := ?_) rfl rfl (fun xq wx => ?_) ?_; rotate_left 1; · (go_simp; with_reducible rfl)
 try simp only [clL]
 refine a0e rfl rfl rfl (fun _ => rfl) (cw 4 (kN z)) (fun wx hS => St.rangeL hS 0 rfl 8 _ (f0g _ _ _)) Tryz.underlying50 rfl (by kernel_rfl) ?_
 try simp only [clL]
 refine a0n (v := ?_) rfl rfl (fun xq wx => ?_) ?_; rotate_left 1; · (go_simp; with_reducible rfl)
 try simp only [clL]
 refine a0e rfl rfl rfl (fun _ => rfl) (cw 4 (kN x)) (fun wx hS => St.rangeL hS 0 rfl 0 _ (j0M _ _ _)) Tryz.underlying50 rfl (by kernel_rfl) ?_
 try simp only [clL]
 refine a0n (v := ?_) rfl rfl (fun xq wx => ?_) ?_; rotate_left 1; · (go_simp; with_reducible rfl)
 try simp only [clL]
 refine a0e rfl rfl rfl (fun _ => rfl) (cw 4 (kN x)) (fun wx hS => St.rangeL hS 0 rfl 0 _ (j0M _ _ _)) Tryz.underlying50 rfl (by kernel_rfl) ?_
 try simp only [clL]
 refine a0e rfl rfl rfl (fun _ => rfl) (cw 4 (kN e2)) (fun wx hS => St.rangeL hS 5 rfl 0 _ dZl) Tryz.underlying50 rfl (by kernel_rfl) ?_
 try simp only [clL]
 refine a0c rfl rfl rfl Tryz.call45 (fun w hS hR => a0K _) (fun _ => rfl) ?_
 try simp only [clL]
 refine a0c rfl rfl rfl Tryz.call45 (fun w hS hR => a0K _) (fun _ => rfl) ?_
 try simp only [clL]
 refine a0c rfl rfl rfl Tryz.call45 (fun w hS hR => a0K _) (fun _ => rfl) ?_
 try simp only [clL]
 refine a0c rfl rfl rfl Tryz.call47 (fun w hS hR => d0T d d t1 Ht1.out _) (fun _ => rfl) ?_
 try simp only [clL]
 refine a0c rfl rfl rfl Tryz.call47 (fun w hS hR => d0T t1 z t2 Ht2.out _) (fun _ => rfl) ?_
 try simp only [clL]
 refine a0c rfl rfl rfl Tryz.call45 (fun w hS hR => a0K _) (fun _ => rfl) ?_
 try simp only [clL]
 refine a0c rfl rfl rfl Tryz.call45 (fun w hS hR => a0K _) (fun _ => rfl) ?_
 try simp only [clL]
 refine a0c rfl rfl rfl Tryz.call113 (fun w hS hR => x0p x x x2 Hx2.out _) (fun _ => rfl) ?_
 try simp only [clL]
 refine a0c rfl rfl rfl Tryz.call47 (fun w hS hR => d0T x2 e2 t3 Ht3.out _) (fun _ => rfl) ?_
 try simp only [clL]
 refine a0c rfl rfl rfl Tryz.call112 (fun w hS hR => u0g t2 t3 t Ht.out _) (fun _ => rfl) ?_
 try simp only [clL]
 refine b0f List.mem_cons_self fun g8 => ?_
 simp only [upd, reduceIte]
 refine a0y fun xq w13 st13 hR => ?_
 try dsimp only
 clear hR xq
 refine a0r rfl rfl ?_
 refine a0j st13 7 rfl rfl rfl rfl (by simp [a0a]) (by kernel_rfl) (a0i _ _) ?_
 intro w14 st14
 repeat (first | simp only [List.cons_append] at st14 | simp only [List.nil_append] at st14 | simp only [List.set_cons_succ] at st14 | simp only [List.set_cons_zero] at st14)
 clear st13
 try simp only [Act.put]
 refine a0k ?_
 refine NoPanic.normal ?_
 go_wp2_with fail
 refine wp_region_noPanic ?_
 refine a0g st14 5 [.o 4, .t 1, .t 2, .c 0, .c 3, .j 4] (.m 5 .nil) (by kernel_rfl) (by kernel_rfl) (fun _ _ _ _ _ h => h) ?_
 clear st14
 refine b0e rfl rfl rfl e0I (cw 4 0) rfl ?_
 try simp only [clL]
 refine a0e rfl rfl rfl (fun _ => rfl) (cw 4 (kN ee)) (fun wx hS => St.rangeL hS 4 rfl 0 _ dZl) Tryz.underlying50 rfl (by kernel_rfl) ?_
 try simp only [clL]
 refine a0e rfl rfl rfl (fun _ => rfl) (cw 4 (kN t)) (fun wx hS => St.rangeL hS 7 rfl 0 _ dZl) Tryz.underlying50 rfl (by kernel_rfl) ?_
 try simp only [clL]
 refine a0c rfl rfl rfl Tryz.call45 (fun w hS hR => a0K _) (fun _ => rfl) ?_
 try simp only [clL]
 refine a0c rfl rfl rfl Tryz.call47 (fun w hS hR => d0T ee t X HX.out _) (fun _ => rfl) ?_
 try simp only [clL]
 refine b0f List.mem_cons_self fun g9 => ?_
 simp only [upd, reduceIte]
 refine a0y fun xq w15 st15 hR => ?_
 try dsimp only
 clear hR xq
 refine a0r rfl rfl ?_
 refine a0j st15 8 rfl rfl rfl rfl (by simp [a0a]) (by kernel_rfl) (a0i _ _) ?_
 intro w16 st16
 repeat (first | simp only [List.cons_append] at st16 | simp only [List.nil_append] at st16 | simp only [List.set_cons_succ] at st16 | simp only [List.set_cons_zero] at st16)
 clear st15
 try simp only [Act.put]
 refine a0k ?_
 refine NoPanic.normal ?_
 go_wp2_with fail
 refine wp_region_noPanic ?_
 refine a0g st16 19 [.o 18, .t 2, .w 5, .t 6, .t 7, .t 9, .w 13, .t 14, .t 15, .c 0, .c 1, .c 3, .c 4, .c 8, .c 10, .c 11, .c 12, .c 16, .c 17, .j 18] (.m 19 .nil) (by kernel_rfl) (by kernel_rfl) (fun _ _ _ _ _ h => h) ?_
 clear st16
 refine b0e rfl rfl rfl e0I (cw 4 0) rfl ?_
 try simp only [clL]
 refine a0e rfl rfl rfl (fun _ => rfl) (cw 4 (kN d)) (fun wx hS => St.rangeL hS 3 rfl 0 _ dZl) Tryz.underlying50 rfl (by kernel_rfl) ?_
 try simp only [clL]
 refine a0n (v := ?_) rfl rfl (fun xq wx => ?_) ?_; rotate_left 1; · (go_simp; with_reducible rfl)
 try simp only [clL]
 refine a0e rfl rfl rfl (fun _ => rfl) (cw 4 (kN x)) (fun wx hS => St.rangeL hS 0 rfl 0 _ (j0M _ _ _)) Tryz.underlying50 rfl (by kernel_rfl) ?_
 try simp only [clL]
 refine a0e rfl rfl rfl (fun _ => rfl) (cw 4 (kN e2)) (fun wx hS => St.rangeL hS 5 rfl 0 _ dZl) Tryz.underlying50 rfl (by kernel_rfl) ?_
 try simp only [clL]
 refine a0e rfl rfl rfl (fun _ => rfl) (cw 4 (kN t)) (fun wx hS => St.rangeL hS 7 rfl 0 _ dZl) Tryz.underlying50 rfl (by kernel_rfl) ?_
 try simp only [clL]
 refine a0n (v := ?_) rfl rfl (fun xq wx => ?_) ?_; rotate_left 1; · (go_simp; with_reducible rfl)
 try simp only [clL]
 refine a0e rfl rfl rfl (fun _ => rfl) (cw 4 (kN y)) (fun wx hS => St.rangeL hS 0 rfl 4 _ (l0A _ _ _)) Tryz.underlying50 rfl (by kernel_rfl) ?_
 try simp only [clL]
 refine a0e rfl rfl rfl (fun _ => rfl) (cw 4 (kN e3)) (fun wx hS => St.rangeL hS 6 rfl 0 _ dZl) Tryz.underlying50 rfl (by kernel_rfl) ?_
 try simp only [clL]
 refine a0c rfl rfl rfl Tryz.call45 (fun w hS hR => a0K _) (fun _ => rfl) ?_
 try simp only [clL]
 refine a0c rfl rfl rfl Tryz.call45 (fun w hS hR => a0K _) (fun _ => rfl) ?_
 try simp only [clL]
 refine a0c rfl rfl rfl Tryz.call45 (fun w hS hR => a0K _) (fun _ => rfl) ?_
 try simp only [clL]
 refine a0c rfl rfl rfl Tryz.call45 (fun w hS hR => a0K _) (fun _ => rfl) ?_
 try simp only [clL]
 refine a0c rfl rfl rfl Tryz.call47 (fun w hS hR => d0T x e2 s1 Hs1.out _) (fun _ => rfl) ?_
 try simp only [clL]
 refine a0c rfl rfl rfl Tryz.call112 (fun w hS hR => u0g s1 t s2 Hs2.out _) (fun _ => rfl) ?_
 try simp only [clL]
 refine a0c rfl rfl rfl Tryz.call47 (fun w hS hR => d0T d s2 s3 Hs3.out _) (fun _ => rfl) ?_
 try simp only [clL]
 refine a0c rfl rfl rfl Tryz.call45 (fun w hS hR => a0K _) (fun _ => rfl) ?_
 try simp only [clL]
 refine a0c rfl rfl rfl Tryz.call47 (fun w hS hR => d0T y e3 s4 Hs4.out _) (fun _ => rfl) ?_
 try simp only [clL]
 refine a0c rfl rfl rfl Tryz.call112 (fun w hS hR => u0g s3 s4 Y HY.out _) (fun _ => rfl) ?_
 try simp only [clL]
 refine b0f List.mem_cons_self fun g10 => ?_
 simp only [upd, reduceIte]
 refine a0y fun xq w17 st17 hR => ?_
 try dsimp only
 clear hR xq
 refine a0r rfl rfl ?_
 refine a0j st17 9 rfl rfl rfl rfl (by simp [a0a]) (by kernel_rfl) (a0i _ _) ?_
 intro w18 st18
 repeat (first | simp only [List.cons_append] at st18 | simp only [List.nil_append] at st18 | simp only [List.set_cons_succ] at st18 | simp only [List.set_cons_zero] at st18)
 clear st17
 try simp only [Act.put]
 refine a0k ?_
 refine NoPanic.normal ?_
 go_wp2_with fail
 refine wp_region_noPanic ?_
 refine a0g st18 8 [.t 0, .t 1, .t 3, .w 4, .t 5, .c 2, .c 6, .w 7] (.m 8 .nil) (by kernel_rfl) (by kernel_rfl) (fun _ _ _ _ _ h => h) ?_
 clear st18
 refine a0e rfl rfl rfl (fun _ => rfl) (cw 4 (kN X)) (fun wx hS => St.rangeL hS 8 rfl 0 _ dZl) Tryz.underlying50 rfl (by kernel_rfl) ?_
 try simp only [clL]
 refine a0e rfl rfl rfl (fun _ => rfl) (cw 4 (kN Y)) (fun wx hS => St.rangeL hS 9 rfl 0 _ dZl) Tryz.underlying50 rfl (by kernel_rfl) ?_
 try simp only [clL]
 refine a0e rfl rfl rfl (fun _ => rfl) (cw 4 (kN e3)) (fun wx hS => St.rangeL hS 6 rfl 0 _ dZl) Tryz.underlying50 rfl (by kernel_rfl) ?_
 try simp only [clL]
 refine a0n (v := ?_) rfl rfl (fun xq wx => ?_) ?_; rotate_left 1; · (go_simp; with_reducible rfl)
 try simp only [clL]
 refine a0e rfl rfl rfl (fun _ => rfl) (cw 4 (kN z)) (fun wx hS => St.rangeL hS 0 rfl 8 _ (f0g _ _ _)) Tryz.underlying50 rfl (by kernel_rfl) ?_
 try simp only [clL]
 refine a0c rfl rfl rfl Tryz.call45 (fun w hS hR => a0K _) (fun _ => rfl) ?_
 try simp only [clL]
 refine a0c rfl rfl rfl Tryz.call47 (fun w hS hR => d0T e3 z Z HZ.out _) (fun _ => rfl) ?_
 try simp only [clL]
 refine a0n rfl rfl (fun _ => b0z rfl _ (j0I _ _ _)) ?_
 try simp only [clL]
 refine a0y fun xq w19 st19 hR => ?_
 try dsimp only
 clear hR xq
 refine a0r rfl rfl ?_
 refine a0j st19 1 rfl rfl rfl rfl (by simp [a0a]) (by kernel_rfl) (a0Z _ _ _) ?_
 intro w20 st20
 try simp only [List.set_cons_zero, List.set_cons_succ] at st20
 clear st19
 try simp only [Act.put]
 refine a0k ?_
 refine NoPanic.normal ?_
 have hr := st20.at 1 rfl
 have hfr := st20.fr
 clear st20
 go_wp2_with fail
 exact bodyPost_ret (a0F rfl rfl hr Tryz.underlying54 rfl (by kernel_rfl)) rfl ⟨rfl, hfr⟩
theorem m0B (x1 y1 z1 x2 y2 z2 : K) (hb1 : decide (z1 = 0) = true) (w : World) : Calls Tryz.prog 83 #[rpV x1 y1 z1, rpV x2 y2 z2] w fun e w' => e = .returned (rpV x2 y2 z2) ∧ Fr Nob w w' := by
 have HB1 := qH hb1
 clear hb1
 unfold rpV rpL
 have st0 := St.start Nob w
 go_enter Tryz.func83, Tryz.ntmps83
 go_wp2_with (with_reducible refine wSk 2 ?_)
 refine a0m st0 rfl rfl rfl (cw 4 (kN x1) ++ (cw 4 (kN y1) ++ cw 4 (kN z1))) rfl ?_
 intro g2 w1 st1
 clear st0
 go_wp2_with (with_reducible refine wSk 3 ?_)
 refine a0m st1 rfl rfl rfl (cw 4 (kN x2) ++ (cw 4 (kN y2) ++ cw 4 (kN z2))) rfl ?_
 intro g3 w2 st2
 clear st1
 go_wp2_with (with_reducible refine wSk 4 ?_)
 refine a0b st2 rfl rfl (z := zAc) (by kernel_rfl) (cw 12 0) (by rw [a0f]; rfl) ?_
 intro g4 w3 st3
 clear st2
 go_wp2_with (with_reducible refine wSk 16 ?_)
 refine a0o st3 0 rfl rfl rfl Tryz.underlying54 rfl rfl (by kernel_rfl) ?_
 go_wp2_with fail
 refine (d0c x1 y1 z1 true HB1.out _).mono ?_
 rintro e' w4 ⟨rfl, hf4⟩
 have st4 := st3.keep hf4
 clear st3 hf4
 go_wp2_with (with_reducible refine wSk 19 ?_)
 refine a0o st4 1 rfl rfl rfl Tryz.underlying54 rfl rfl (by kernel_rfl) ?_
 go_wp2_with (with_reducible refine wSn ?_)
 refine a0d st4 2 rfl rfl rfl rfl rfl (by simp [a0a]) (by kernel_rfl) (a0Z _ _ _) ?_
 intro w5 st5
 clear st4
 have hr := st5.at 2 rfl
 have hfr := st5.fr
 clear st5
 go_wp2_with fail
 exact bodyPost_ret (a0F rfl rfl hr Tryz.underlying54 rfl (by kernel_rfl)) rfl ⟨rfl, hfr⟩
theorem m0C (x1 y1 z1 x2 y2 z2 : K) (hb1 : decide (z1 = 0) = false) (hb2 : decide (z2 = 0) = true) (w : World) : Calls Tryz.prog 83 #[rpV x1 y1 z1, rpV x2 y2 z2] w fun e w' => e = .returned (rpV x1 y1 z1) ∧ Fr Nob w w' := by
 have HB1 := qH hb1
 have HB2 := qH hb2
 clear hb1 hb2
 unfold rpV rpL
 have st0 := St.start Nob w
 go_enter Tryz.func83, Tryz.ntmps83
 go_wp2_with (with_reducible refine wSk 2 ?_)
 refine a0m st0 rfl rfl rfl (cw 4 (kN x1) ++ (cw 4 (kN y1) ++ cw 4 (kN z1))) rfl ?_
 intro g2 w1 st1
 clear st0
 go_wp2_with (with_reducible refine wSk 3 ?_)
 refine a0m st1 rfl rfl rfl (cw 4 (kN x2) ++ (cw 4 (kN y2) ++ cw 4 (kN z2))) rfl ?_
 intro g3 w2 st2
 clear st1
 go_wp2_with (with_reducible refine wSk 4 ?_)
 refine a0b st2 rfl rfl (z := zAc) (by kernel_rfl) (cw 12 0) (by rw [a0f]; rfl) ?_
 intro g4 w3 st3
 clear st2
 go_wp2_with (with_reducible refine wSk 16 ?_)
 refine a0o st3 0 rfl rfl rfl Tryz.underlying54 rfl rfl (by kernel_rfl) ?_
 go_wp2_with fail
 refine (d0c x1 y1 z1 false HB1.out _).mono ?_
 rintro e' w4 ⟨rfl, hf4⟩
 have st4 := st3.keep hf4
 clear st3 hf4
 go_wp2_with (with_reducible refine wSk 20 ?_)
 refine a0o st4 1 rfl rfl rfl Tryz.underlying54 rfl rfl (by kernel_rfl) ?_
 go_wp2_with fail
 refine (d0c x2 y2 z2 true HB2.out _).mono ?_
 rintro e' w5 ⟨rfl, hf5⟩
 have st5 := st4.keep hf5
 clear st4 hf5
 go_wp2_with (with_reducible refine wSk 23 ?_)
 refine a0o st5 0 rfl rfl rfl Tryz.underlying54 rfl rfl (by kernel_rfl) ?_
 go_wp2_with (with_reducible refine wSn ?_)
 refine a0d st5 2 rfl rfl rfl rfl rfl (by simp [a0a]) (by kernel_rfl) (a0Z _ _ _) ?_
 intro w6 st6
 clear st5
 have hr := st6.at 2 rfl
 have hfr := st6.fr
 clear st6
 go_wp2_with fail
 exact bodyPost_ret (a0F rfl rfl hr Tryz.underlying54 rfl (by kernel_rfl)) rfl ⟨rfl, hfr⟩
theorem y0K {P : Program} {ops : Array Oper} {Q : Exit → Act → World → Prop} {a : Act} {w : World} {rest : List Oper} {o : Oper} (hw : Region.wanted o (yielded ops a.tmps) = true) (h : wpList P ops Q ({o with guard := none} :: rest) a w) : wpList P ops Q (o :: rest) a w := by
 unfold wpList at h ⊢
 rw [if_pos hw]
 rw [if_pos (by simp [Region.wanted])] at h
 exact h
theorem l0v (x y : K) {o : Oper} {a : Act} {p q : Operand} {T : TypeId} (ho : o.op = .binOp .neq 50 p q T) (hp : a.eval p = i4 (kN x)) (hq : a.eval q = i4 (kN y)) {b : Bool} (hb : decide (x = y) = b) (w : World) :
  (execOp a.eval o).run Tryz.prog w = .ok (.value (.bool !b)) w :=
 d0w ho hp hq w (run_eqGuard_agg w .neq 50 p q _ _ Tryz.eqGuardType50) (by
  show (do pure (Value.bool (!(← Op.equal 50 (.agg (cw 4 (kN x)).toArray) (.agg (cw 4 (kN y)).toArray))))).run Tryz.prog w = _
  simp only [Sem.run_bind, r0U x y hb w, Result.andThen_ok]
  rfl)
theorem w0Y (w : World) : Calls Tryz.prog 82 #[] w fun e w' => e = .returned (.agg (cw 4 (kN 0) ++ (cw 4 (kN 1) ++ cw 4 (kN 0))).toArray) ∧ Fr Nob w w' := l0u w
theorem r0X (x1 y1 z1 x2 y2 z2 : K) (hb1 : decide (z1 = 0) = false) (hb2 : decide (z2 = 0) = false) (u v u2 v2 : K) (eu : y2 * z1 = u) (ev : x2 * z1 = v) (eu2 : y1 * z2 = u2) (ev2 : x1 * z2 = v2) (hv : decide (v = v2) = true) (hu : decide (u = u2) = false) (w : World) : Calls Tryz.prog 83 #[rpV x1 y1 z1, rpV x2 y2 z2] w fun e w' => e = .returned (rpV 0 1 0) ∧ Fr Nob w w' := by
 have HB1 := qH hb1
 have HB2 := qH hb2
 clear hb1 hb2
 have Hu := qH eu
 have Hv := qH ev
 have Hu2 := qH eu2
 have Hv2 := qH ev2
 clear eu ev eu2 ev2
 have HV := qH hv
 clear hv
 have HU := qH hu
 clear hu
 unfold rpV rpL
 have st0 := St.start Nob w
 go_enter Tryz.func83, Tryz.ntmps83
 go_wp2_with (with_reducible refine wSk 2 ?_)
 refine a0m st0 rfl rfl rfl (cw 4 (kN x1) ++ (cw 4 (kN y1) ++ cw 4 (kN z1))) rfl ?_
 intro g2 w1 st1
 clear st0
 go_wp2_with (with_reducible refine wSk 3 ?_)
 refine a0m st1 rfl rfl rfl (cw 4 (kN x2) ++ (cw 4 (kN y2) ++ cw 4 (kN z2))) rfl ?_
 intro g3 w2 st2
 clear st1
 go_wp2_with (with_reducible refine wSk 4 ?_)
 refine a0b st2 rfl rfl (z := zAc) (by kernel_rfl) (cw 12 0) (by rw [a0f]; rfl) ?_
 intro g4 w3 st3
 clear st2
 go_wp2_with (with_reducible refine wSk 16 ?_)
 refine a0o st3 0 rfl rfl rfl Tryz.underlying54 rfl rfl (by kernel_rfl) ?_
 go_wp2_with fail
 refine (d0c x1 y1 z1 false HB1.out _).mono ?_
 rintro e' w4 ⟨rfl, hf4⟩
 have st4 := st3.keep hf4
 clear st3 hf4
 go_wp2_with (with_reducible refine wSk 20 ?_)
 refine a0o st4 1 rfl rfl rfl Tryz.underlying54 rfl rfl (by kernel_rfl) ?_
 go_wp2_with fail
 refine (d0c x2 y2 z2 false HB2.out _).mono ?_
 rintro e' w5 ⟨rfl, hf5⟩
 have st5 := st4.keep hf5
 clear st4 hf5
 go_wp2_with fail
 refine wp_region_noPanic ?_
 refine a0g st5 7 [.o 6, .w 1, .t 2, .w 3, .t 4, .c 0, .c 5, .j 6] (.m 7 .nil) (by kernel_rfl) (by kernel_rfl) (fun _ _ _ _ _ h => h) ?_
 clear st5
 refine b0e rfl rfl rfl e0I (cw 4 0) rfl ?_
 try simp only [clL]
 refine a0n (v := ?_) rfl rfl (fun xq wx => ?_) ?_; rotate_left 1; · (go_simp; with_reducible rfl)
 try simp only [clL]
 refine a0e rfl rfl rfl (fun _ => rfl) (cw 4 (kN y2)) (fun wx hS => St.rangeL hS 1 rfl 4 _ (l0A _ _ _)) Tryz.underlying50 rfl (by kernel_rfl) ?_
 try simp only [clL]
 refine a0n (v := ?_) rfl rfl (fun xq wx => ?_) ?_; rotate_left 1; · (go_simp; with_reducible rfl)
 try simp only [clL]
 refine a0e rfl rfl rfl (fun _ => rfl) (cw 4 (kN z1)) (fun wx hS => St.rangeL hS 0 rfl 8 _ (f0g _ _ _)) Tryz.underlying50 rfl (by kernel_rfl) ?_
 try simp only [clL]
 refine a0c rfl rfl rfl Tryz.call45 (fun w hS hR => a0K _) (fun _ => rfl) ?_
 try simp only [clL]
 refine a0c rfl rfl rfl Tryz.call47 (fun w hS hR => d0T y2 z1 u Hu.out _) (fun _ => rfl) ?_
 try simp only [clL]
 refine b0f List.mem_cons_self fun g6 => ?_
 simp only [upd, reduceIte]
 refine a0y fun xq w6 st6 hR => ?_
 try dsimp only
 clear hR xq
 refine a0r rfl rfl ?_
 refine a0j st6 3 rfl rfl rfl rfl (by simp [a0a]) (by kernel_rfl) (a0i _ _) ?_
 intro w7 st7
 repeat (first | simp only [List.cons_append] at st7 | simp only [List.nil_append] at st7 | simp only [List.set_cons_succ] at st7 | simp only [List.set_cons_zero] at st7)
 clear st6
 try simp only [Act.put]
 refine a0k ?_
 refine NoPanic.normal ?_
 go_wp2_with fail
 refine wp_region_noPanic ?_
 refine a0g st7 7 [.o 6, .w 1, .t 2, .w 3, .t 4, .c 0, .c 5, .j 6] (.m 7 .nil) (by kernel_rfl) (by kernel_rfl) (fun _ _ _ _ _ h => h) ?_
 clear st7
 refine b0e rfl rfl rfl e0I (cw 4 0) rfl ?_
 try simp only [clL]
 refine a0n (v := ?_) rfl rfl (fun xq wx => ?_) ?_; rotate_left 1; · (go_simp; with_reducible rfl)
 try simp only [clL]
 refine a0e rfl rfl rfl (fun _ => rfl) (cw 4 (kN x2)) (fun wx hS => St.rangeL hS 1 rfl 0 _ (j0M _ _ _)) Tryz.underlying50 rfl (by kernel_rfl) ?_
 try simp only [clL]
 refine a0n (v := ?_) rfl rfl (fun xq wx => ?_) ?_; rotate_left 1; · (go_simp; with_reducible rfl)
 try simp only [clL]
 refine a0e rfl rfl rfl (fun _ => rfl) (cw 4 (kN z1)) (fun wx hS => St.rangeL hS 0 rfl 8 _ (f0g _ _ _)) Tryz.underlying50 rfl (by kernel_rfl) ?_
 try simp only [clL]
 refine a0c rfl rfl rfl Tryz.call45 (fun w hS hR => a0K _) (fun _ => rfl) ?_
 try simp only [clL]
 refine a0c rfl rfl rfl Tryz.call47 (fun w hS hR => d0T x2 z1 v Hv.out _) (fun _ => rfl) ?_
 try simp only [clL]
 refine b0f List.mem_cons_self fun g7 => ?_
 simp only [upd, reduceIte]
 refine a0y fun xq w8 st8 hR => ?_
 try dsimp only
 clear hR xq
 refine a0r rfl rfl ?_
 refine a0j st8 4 rfl rfl rfl rfl (by simp [a0a]) (by kernel_rfl) (a0i _ _) ?_
 intro w9 st9
 repeat (first | simp only [List.cons_append] at st9 | simp only [List.nil_append] at st9 | simp only [List.set_cons_succ] at st9 | simp only [List.set_cons_zero] at st9)
 clear st8
 try simp only [Act.put]
 refine a0k ?_
 refine NoPanic.normal ?_
 go_wp2_with fail
 refine wp_region_noPanic ?_
 refine a0g st9 7 [.o 6, .w 1, .t 2, .w 3, .t 4, .c 0, .c 5, .j 6] (.m 7 .nil) (by kernel_rfl) (by kernel_rfl) (fun _ _ _ _ _ h => h) ?_
 clear st9
 refine b0e rfl rfl rfl e0I (cw 4 0) rfl ?_
 try simp only [clL]
 refine a0n (v := ?_) rfl rfl (fun xq wx => ?_) ?_; rotate_left 1; · (go_simp; with_reducible rfl)
 try simp only [clL]
 refine a0e rfl rfl rfl (fun _ => rfl) (cw 4 (kN y1)) (fun wx hS => St.rangeL hS 0 rfl 4 _ (l0A _ _ _)) Tryz.underlying50 rfl (by kernel_rfl) ?_
 try simp only [clL]
 refine a0n (v := ?_) rfl rfl (fun xq wx => ?_) ?_; rotate_left 1; · (go_simp; with_reducible rfl)
 try simp only [clL]
 refine a0e rfl rfl rfl (fun _ => rfl) (cw 4 (kN z2)) (fun wx hS => St.rangeL hS 1 rfl 8 _ (f0g _ _ _)) Tryz.underlying50 rfl (by kernel_rfl) ?_
 try simp only [clL]
 refine a0c rfl rfl rfl Tryz.call45 (fun w hS hR => a0K _) (fun _ => rfl) ?_
 try simp only [clL]
 refine a0c rfl rfl rfl Tryz.call47 (fun w hS hR => d0T y1 z2 u2 Hu2.out _) (fun _ => rfl) ?_
 try simp only [clL]
 refine b0f List.mem_cons_self fun g8 => ?_
 simp only [upd, reduceIte]
 refine a0y fun xq w10 st10 hR => ?_
 try dsimp only
 clear hR xq
 refine a0r rfl rfl ?_
 refine a0j st10 5 rfl rfl rfl rfl (by simp [a0a]) (by kernel_rfl) (a0i _ _) ?_
 intro w11 st11
 repeat (first | simp only [List.cons_append] at st11 | simp only [List.nil_append] at st11 | simp only [List.set_cons_succ] at st11 | simp only [List.set_cons_zero] at st11)
 clear st10
 try simp only [Act.put]
 refine a0k ?_
 refine NoPanic.normal ?_
 go_wp2_with fail
 refine wp_region_noPanic ?_
 refine a0g st11 7 [.o 6, .w 1, .t 2, .w 3, .t 4, .c 0, .c 5, .j 6] (.m 7 .nil) (by kernel_rfl) (by kernel_rfl) (fun _ _ _ _ _ h => h) ?_
 clear st11
 refine b0e rfl rfl rfl e0I (cw 4 0) rfl ?_
 try simp only [clL]
 refine a0n (v := ?_) rfl rfl (fun xq wx => ?_) ?_; rotate_left 1; · (go_simp; with_reducible rfl)
 try simp only [clL]
 refine a0e rfl rfl rfl (fun _ => rfl) (cw 4 (kN x1)) (fun wx hS => St.rangeL hS 0 rfl 0 _ (j0M _ _ _)) Tryz.underlying50 rfl (by kernel_rfl) ?_
 try simp only [clL]
 refine a0n (v := ?_) rfl rfl (fun xq wx => ?_) ?_; rotate_left 1; · (go_simp; with_reducible rfl)
 try simp only [clL]
 refine a0e rfl rfl rfl (fun _ => rfl) (cw 4 (kN z2)) (fun wx hS => St.rangeL hS 1 rfl 8 _ (f0g _ _ _)) Tryz.underlying50 rfl (by kernel_rfl) ?_
 try simp only [clL]
 refine a0c rfl rfl rfl Tryz.call45 (fun w hS hR => a0K _) (fun _ => rfl) ?_
 try simp only [clL]
 refine a0c rfl rfl rfl Tryz.call47 (fun w hS hR => d0T x1 z2 v2 Hv2.out _) (fun _ => rfl) ?_
 try simp only [clL]
 refine b0f List.mem_cons_self fun g9 => ?_
 simp only [upd, reduceIte]
 refine a0y fun xq w12 st12 hR => ?_
 try dsimp only
 clear hR xq
 refine a0r rfl rfl ?_
 refine a0j st12 6 rfl rfl rfl rfl (by simp [a0a]) (by kernel_rfl) (a0i _ _) ?_
 intro w13 st13
 repeat (first | simp only [List.cons_append] at st13 | simp only [List.nil_append] at st13 | simp only [List.set_cons_succ] at st13 | simp only [List.set_cons_zero] at st13)
 clear st12
 try simp only [Act.put]
 refine a0k ?_
 refine NoPanic.normal ?_
 go_wp2_with (with_reducible refine wSk 48 ?_)
 refine a0h st13 4 rfl rfl rfl Tryz.underlying50 rfl (by kernel_rfl) ?_
 go_wp2_with (with_reducible refine wSk 49 ?_)
 refine a0h st13 6 rfl rfl rfl Tryz.underlying50 rfl (by kernel_rfl) ?_
 go_wp2_with (with_reducible refine wSk 50 ?_)
 refine e0E rfl (h0I v v2 rfl rfl rfl HV.out _) ?_
 go_wp2_with (with_reducible refine wSk 51 ?_)
 refine a0h st13 3 rfl rfl rfl Tryz.underlying50 rfl (by kernel_rfl) ?_
 go_wp2_with (with_reducible refine wSk 52 ?_)
 refine a0h st13 5 rfl rfl rfl Tryz.underlying50 rfl (by kernel_rfl) ?_
 go_wp2_with (with_reducible refine wSk 53 ?_)
 refine e0E rfl (l0v u u2 rfl rfl rfl HU.out _) ?_
 go_wp2_with fail
 refine (w0Y _).mono ?_
 rintro e' w14 ⟨rfl, hf14⟩
 have st14 := st13.keep hf14
 clear st13 hf14
 go_wp2_with (with_reducible refine wSn ?_)
 refine a0d st14 2 rfl rfl rfl rfl rfl (by simp [a0a]) (by kernel_rfl) (a0Z _ _ _) ?_
 intro w15 st15
 clear st14
 have hr := st15.at 2 rfl
 have hfr := st15.fr
 clear st15
 go_wp2_with fail
 exact bodyPost_ret (a0F rfl rfl hr Tryz.underlying54 rfl (by kernel_rfl)) rfl ⟨rfl, hfr⟩
theorem r0Y (x y z X Y Z : K) (w : World) (h : Calls Tryz.prog 111 #[rpV x y z] w fun e w' => e = .returned (rpV X Y Z) ∧ Fr Nob w w') : Calls Tryz.prog 111 #[.agg (cw 4 (kN x) ++ (cw 4 (kN y) ++ cw 4 (kN z))).toArray] w fun e w' => e = .returned (.agg (cw 4 (kN X) ++ (cw 4 (kN Y) ++ cw 4 (kN Z))).toArray) ∧ Fr Nob w w' := h
theorem r0Z (x1 y1 z1 x2 y2 z2 : K) (hb1 : decide (z1 = 0) = false) (hb2 : decide (z2 = 0) = false) (u v u2 v2 : K) (eu : y2 * z1 = u) (ev : x2 * z1 = v) (eu2 : y1 * z2 = u2) (ev2 : x1 * z2 = v2) (hv : decide (v = v2) = true) (hu : decide (u = u2) = true) (hz : decide (u = 0) = false) (X Y Z : K) (hdb : ∀ wx, Calls Tryz.prog 111 #[rpV x1 y1 z1] wx fun e w' => e = .returned (rpV X Y Z) ∧ Fr Nob wx w') (w : World) : Calls Tryz.prog 83 #[rpV x1 y1 z1, rpV x2 y2 z2] w fun e w' => e = .returned (rpV X Y Z) ∧ Fr Nob w w' := by
 have HB1 := qH hb1
 have HB2 := qH hb2
 clear hb1 hb2
 have Hu := qH eu
 have Hv := qH ev
 have Hu2 := qH eu2
 have Hv2 := qH ev2
 clear eu ev eu2 ev2
 have HV := qH hv
 clear hv
 have HU := qH hu
 clear hu
 have HZ := qH hz
 have HDB := qH hdb
 clear hz hdb
 unfold rpV rpL
 have st0 := St.start Nob w
 go_enter Tryz.func83, Tryz.ntmps83
 go_wp2_with (with_reducible refine wSk 2 ?_)
 refine a0m st0 rfl rfl rfl (cw 4 (kN x1) ++ (cw 4 (kN y1) ++ cw 4 (kN z1))) rfl ?_
 intro g2 w1 st1
 clear st0
 go_wp2_with (with_reducible refine wSk 3 ?_)
 refine a0m st1 rfl rfl rfl (cw 4 (kN x2) ++ (cw 4 (kN y2) ++ cw 4 (kN z2))) rfl ?_
 intro g3 w2 st2
 clear st1
 go_wp2_with (with_reducible refine wSk 4 ?_)
 refine a0b st2 rfl rfl (z := zAc) (by kernel_rfl) (cw 12 0) (by rw [a0f]; rfl) ?_
 intro g4 w3 st3
 clear st2
 go_wp2_with (with_reducible refine wSk 16 ?_)
 refine a0o st3 0 rfl rfl rfl Tryz.underlying54 rfl rfl (by kernel_rfl) ?_
 go_wp2_with fail
 refine (d0c x1 y1 z1 false HB1.out _).mono ?_
 rintro e' w4 ⟨rfl, hf4⟩
 have st4 := st3.keep hf4
 clear st3 hf4
 go_wp2_with (with_reducible refine wSk 20 ?_)
 refine a0o st4 1 rfl rfl rfl Tryz.underlying54 rfl rfl (by kernel_rfl) ?_
 go_wp2_with fail
 refine (d0c x2 y2 z2 false HB2.out _).mono ?_
 rintro e' w5 ⟨rfl, hf5⟩
 have st5 := st4.keep hf5
 clear st4 hf5
 go_wp2_with fail
 refine wp_region_noPanic ?_
 refine a0g st5 7 [.o 6, .w 1, .t 2, .w 3, .t 4, .c 0, .c 5, .j 6] (.m 7 .nil) (by kernel_rfl) (by kernel_rfl) (fun _ _ _ _ _ h => h) ?_
 clear st5
 refine b0e rfl rfl rfl e0I (cw 4 0) rfl ?_
 try simp only [clL]
 refine a0n (v := ?_) rfl rfl (fun xq wx => ?_) ?_; rotate_left 1; · (go_simp; with_reducible rfl)
 try simp only [clL]
 refine a0e rfl rfl rfl (fun _ => rfl) (cw 4 (kN y2)) (fun wx hS => St.rangeL hS 1 rfl 4 _ (l0A _ _ _)) Tryz.underlying50 rfl (by kernel_rfl) ?_
 try simp only [clL]
 refine a0n (v := ?_) rfl rfl (fun xq wx => ?_) ?_; rotate_left 1; · (go_simp; with_reducible rfl)
 try simp only [clL]
 refine a0e rfl rfl rfl (fun _ => rfl) (cw 4 (kN z1)) (fun wx hS => St.rangeL hS 0 rfl 8 _ (f0g _ _ _)) Tryz.underlying50 rfl (by kernel_rfl) ?_
 try simp only [clL]
 refine a0c rfl rfl rfl Tryz.call45 (fun w hS hR => a0K _) (fun _ => rfl) ?_
 try simp only [clL]
 refine a0c rfl rfl rfl Tryz.call47 (fun w hS hR => d0T y2 z1 u Hu.out _) (fun _ => rfl) ?_
 try simp only [clL]
 refine b0f List.mem_cons_self fun g6 => ?_
 simp only [upd, reduceIte]
 refine a0y fun xq w6 st6 hR => ?_
 try dsimp only
 clear hR xq
 refine a0r rfl rfl ?_
 refine a0j st6 3 rfl rfl rfl rfl (by simp [a0a]) (by kernel_rfl) (a0i _ _) ?_
 intro w7 st7
 repeat (first | simp only [List.cons_append] at st7 | simp only [List.nil_append] at st7 | simp only [List.set_cons_succ] at st7 | simp only [List.set_cons_zero] at st7)
 clear st6
 try simp only [Act.put]
 refine a0k ?_
 refine NoPanic.normal ?_
 go_wp2_with fail
 refine wp_region_noPanic ?_
 refine a0g st7 7 [.o 6, .w 1, .t 2, .w 3, .t 4, .c 0, .c 5, .j 6] (.m 7 .nil) (by kernel_rfl) (by kernel_rfl) (fun _ _ _ _ _ h => h) ?_
 clear st7
 refine b0e rfl rfl rfl e0I (cw 4 0) rfl ?_
 try simp only [clL]
 refine a0n (v := ?_) rfl rfl (fun xq wx => ?_) ?_; rotate_left 1; · (go_simp; with_reducible rfl)
 try simp only [clL]
 refine a0e rfl rfl rfl (fun _ => rfl) (cw 4 (kN x2)) (fun wx hS => St.rangeL hS 1 rfl 0 _ (j0M _ _ _)) Tryz.underlying50 rfl (by kernel_rfl) ?_
 try simp only [clL]
 refine a0n (v := ?_) rfl rfl (fun xq wx => ?_) ?_; rotate_left 1; · (go_simp; with_reducible rfl)
 try simp only [clL]
 refine a0e rfl rfl rfl (fun _ => rfl) (cw 4 (kN z1)) (fun wx hS => St.rangeL hS 0 rfl 8 _ (f0g _ _ _)) Tryz.underlying50 rfl (by kernel_rfl) ?_
 try simp only [clL]
 refine a0c rfl rfl rfl Tryz.call45 (fun w hS hR => a0K _) (fun _ => rfl) ?_
 try simp only [clL]
 refine a0c rfl rfl rfl Tryz.call47 (fun w hS hR => d0T x2 z1 v Hv.out _) (fun _ => rfl) ?_
 try simp only [clL]
 refine b0f List.mem_cons_self fun g7 => ?_
 simp only [upd, reduceIte]
 refine a0y fun xq w8 st8 hR => ?_
 try dsimp only
 clear hR xq
 refine a0r rfl rfl ?_
 refine a0j st8 4 rfl rfl rfl rfl (by simp [a0a]) (by kernel_rfl) (a0i _ _) ?_
 intro w9 st9
 repeat (first | simp only [List.cons_append] at st9 | simp only [List.nil_append] at st9 | simp only [List.set_cons_succ] at st9 | simp only [List.set_cons_zero] at st9)
 clear st8
 try simp only [Act.put]
 refine a0k ?_
 refine NoPanic.normal ?_
 go_wp2_with fail
 refine wp_region_noPanic ?_
 refine a0g st9 7 [.o 6, .w 1, .t 2, .w 3, .t 4, .c 0, .c 5, .j 6] (.m 7 .nil) (by kernel_rfl) (by kernel_rfl) (fun _ _ _ _ _ h => h) ?_
 clear st9
 refine b0e rfl rfl rfl e0I (cw 4 0) rfl ?_
 try simp only [clL]
 refine a0n (v := ?_) rfl rfl (fun xq wx => ?_) ?_; rotate_left 1; · (go_simp; with_reducible rfl)
 try simp only [clL]
 refine a0e rfl rfl rfl (fun _ => rfl) (cw 4 (kN y1)) (fun wx hS => St.rangeL hS 0 rfl 4 _ (l0A _ _ _)) Tryz.underlying50 rfl (by kernel_rfl) ?_
 try simp only [clL]
 refine a0n (v := ?_) rfl rfl (fun xq wx => ?_) ?_; rotate_left 1; · (go_simp; with_reducible rfl)
 try simp only [clL]
 refine a0e rfl rfl rfl (fun _ => rfl) (cw 4 (kN z2)) (fun wx hS => St.rangeL hS 1 rfl 8 _ (f0g _ _ _)) Tryz.underlying50 rfl (by kernel_rfl) ?_
 try simp only [clL]
 refine a0c rfl rfl rfl Tryz.call45 (fun w hS hR => a0K _) (fun _ => rfl) ?_
 try simp only [clL]
 refine a0c rfl rfl rfl Tryz.call47 (fun w hS hR => d0T y1 z2 u2 Hu2.out _) (fun _ => rfl) ?_
 try simp only [clL]
 refine b0f List.mem_cons_self fun g8 => ?_
 simp only [upd, reduceIte]
 refine a0y fun xq w10 st10 hR => ?_
 try dsimp only
 clear hR xq
 refine a0r rfl rfl ?_
 refine a0j st10 5 rfl rfl rfl rfl (by simp [a0a]) (by kernel_rfl) (a0i _ _) ?_
 intro w11 st11
 repeat (first | simp only [List.cons_append] at st11 | simp only [List.nil_append] at st11 | simp only [List.set_cons_succ] at st11 | simp only [List.set_cons_zero] at st11)
 clear st10
 try simp only [Act.put]
 refine a0k ?_
 refine NoPanic.normal ?_
 go_wp2_with fail
 refine wp_region_noPanic ?_
 refine a0g st11 7 [.o 6, .w 1, .t 2, .w 3, .t 4, .c 0, .c 5, .j 6] (.m 7 .nil) (by kernel_rfl) (by kernel_rfl) (fun _ _ _ _ _ h => h) ?_
 clear st11
 refine b0e rfl rfl rfl e0I (cw 4 0) rfl ?_
 try simp only [clL]
 refine a0n (v := ?_) rfl rfl (fun xq wx => ?_) ?_; rotate_left 1; · (go_simp; with_reducible rfl)
 try simp only [clL]
 refine a0e rfl rfl rfl (fun _ => rfl) (cw 4 (kN x1)) (fun wx hS => St.rangeL hS 0 rfl 0 _ (j0M _ _ _)) Tryz.underlying50 rfl (by kernel_rfl) ?_
 try simp only [clL]
 refine a0n (v := ?_) rfl rfl (fun xq wx => ?_) ?_; rotate_left 1; · (go_simp; with_reducible rfl)
 try simp only [clL]
 refine a0e rfl rfl rfl (fun _ => rfl) (cw 4 (kN z2)) (fun wx hS => St.rangeL hS 1 rfl 8 _ (f0g _ _ _)) Tryz.underlying50 rfl (by kernel_rfl) ?_
 try simp only [clL]
 refine a0c rfl rfl rfl Tryz.call45 (fun w hS hR => a0K _) (fun _ => rfl) ?_
 try simp only [clL]
 refine a0c rfl rfl rfl Tryz.call47 (fun w hS hR => d0T x1 z2 v2 Hv2.out _) (fun _ => rfl) ?_
 try simp only [clL]
 refine b0f List.mem_cons_self fun g9 => ?_
 simp only [upd, reduceIte]
 refine a0y fun xq w12 st12 hR => ?_
 try dsimp only
 clear hR xq
 refine a0r rfl rfl ?_
 refine a0j st12 6 rfl rfl rfl rfl (by simp [a0a]) (by kernel_rfl) (a0i _ _) ?_
 intro w13 st13
 repeat (first | simp only [List.cons_append] at st13 | simp only [List.nil_append] at st13 | simp only [List.set_cons_succ] at st13 | simp only [List.set_cons_zero] at st13)
 clear st12
 try simp only [Act.put]
 refine a0k ?_
 refine NoPanic.normal ?_
 go_wp2_with (with_reducible refine wSk 48 ?_)
 refine a0h st13 4 rfl rfl rfl Tryz.underlying50 rfl (by kernel_rfl) ?_
 go_wp2_with (with_reducible refine wSk 49 ?_)
 refine a0h st13 6 rfl rfl rfl Tryz.underlying50 rfl (by kernel_rfl) ?_
 go_wp2_with (with_reducible refine wSk 50 ?_)
 refine e0E rfl (h0I v v2 rfl rfl rfl HV.out _) ?_
 go_wp2_with (with_reducible refine wSk 51 ?_)
 refine a0h st13 3 rfl rfl rfl Tryz.underlying50 rfl (by kernel_rfl) ?_
 go_wp2_with (with_reducible refine wSk 52 ?_)
 refine a0h st13 5 rfl rfl rfl Tryz.underlying50 rfl (by kernel_rfl) ?_
 go_wp2_with (with_reducible refine wSk 53 ?_)
 refine e0E rfl (l0v u u2 rfl rfl rfl HU.out _) ?_
 go_wp2_with (with_reducible refine wSk 55 ?_)
 refine y0K rfl ?_
 refine a0h st13 3 rfl rfl rfl Tryz.underlying50 rfl (by kernel_rfl) ?_
 go_wp2_with fail
 refine (y0J u false HZ.out _).mono ?_
 rintro e' w14 ⟨rfl, hf14⟩
 have st14 := st13.keep hf14
 clear st13 hf14
 go_wp2_with (with_reducible refine wSk 59 ?_)
 refine a0o st14 0 rfl rfl rfl Tryz.underlying54 rfl rfl (by kernel_rfl) ?_
 go_wp2_with fail
 refine (r0Y x1 y1 z1 X Y Z _ (HDB.out _)).mono ?_
 rintro e' w15 ⟨rfl, hf15⟩
 have st15 := st14.keep hf15
 clear st14 hf15
 go_wp2_with (with_reducible refine wSn ?_)
 refine a0d st15 2 rfl rfl rfl rfl rfl (by simp [a0a]) (by kernel_rfl) (a0Z _ _ _) ?_
 intro w16 st16
 clear st15
 have hr := st16.at 2 rfl
 have hfr := st16.fr
 clear st16
 go_wp2_with fail
 exact bodyPost_ret (a0F rfl rfl hr Tryz.underlying54 rfl (by kernel_rfl)) rfl ⟨rfl, hfr⟩
theorem w0Z (x1 y1 z1 x2 y2 z2 : K) (hb1 : decide (z1 = 0) = false) (hb2 : decide (z2 = 0) = false) (u v u2 v2 d ee ww e2 e3 t1 t2 t3 t4 t5 t X s1 s2 s3 s4 Y Z : K) (eu : y2 * z1 = u) (ev : x2 * z1 = v) (eu2 : y1 * z2 = u2) (ev2 : x1 * z2 = v2) (ed : u - u2 = d) (eee : v - v2 = ee) (eww : z1 * z2 = ww) (ee2 : ee * ee = e2) (ee3 : e2 * ee = e3) (et1 : d * d = t1) (et2 : t1 * ww = t2) (et3 : t2 - e3 = t3) (et4 : v2 + v2 = t4) (et5 : t4 * e2 = t5) (et : t3 - t5 = t) (eX : ee * t = X) (es1 : v2 * e2 = s1) (es2 : s1 - t = s2) (es3 : d * s2 = s3) (es4 : u2 * e3 = s4) (eY : s3 - s4 = Y) (eZ : e3 * ww = Z) (hv : decide (v = v2) = false) (w : World) : Calls Tryz.prog 83 #[rpV x1 y1 z1, rpV x2 y2 z2] w fun e w' => e = .returned (rpV X Y Z) ∧ Fr Nob w w' := by
 have HB1 := qH hb1
 have HB2 := qH hb2
 clear hb1 hb2
 have Hu := qH eu
 have Hv := qH ev
 have Hu2 := qH eu2
 have Hv2 := qH ev2
 have Hd := qH ed
 have Hee := qH eee
 have Hww := qH eww
 have He2 := qH ee2
 have He3 := qH ee3
 have Ht1 := qH et1
 have Ht2 := qH et2
 have Ht3 := qH et3
 have Ht4 := qH et4
 have Ht5 := qH et5
 have Ht := qH et
 have HX := qH eX
 have Hs1 := qH es1
 have Hs2 := qH es2
 have Hs3 := qH es3
 have Hs4 := qH es4
 have HY := qH eY
 have HZ := qH eZ
 clear eu ev eu2 ev2 ed eee eww ee2 ee3 et1 et2 et3 et4 et5 et eX es1 es2 es3 es4 eY eZ
 have HV := qH hv
 clear hv
 unfold rpV rpL
 have st0 := St.start Nob w
 go_enter Tryz.func83, Tryz.ntmps83
 go_wp2_with (with_reducible refine wSk 2 ?_)
 refine a0m st0 rfl rfl rfl (cw 4 (kN x1) ++ (cw 4 (kN y1) ++ cw 4 (kN z1))) rfl ?_
 intro g2 w1 st1
 clear st0
 go_wp2_with (with_reducible refine wSk 3 ?_)
 refine a0m st1 rfl rfl rfl (cw 4 (kN x2) ++ (cw 4 (kN y2) ++ cw 4 (kN z2))) rfl ?_
 intro g3 w2 st2
 clear st1
 go_wp2_with (with_reducible refine wSk 4 ?_)
 refine a0b st2 rfl rfl (z := zAc) (by kernel_rfl) (cw 12 0) (by rw [a0f]; rfl) ?_
 intro g4 w3 st3
 clear st2
 go_wp2_with (with_reducible refine wSk 16 ?_)
 refine a0o st3 0 rfl rfl rfl Tryz.underlying54 rfl rfl (by kernel_rfl) ?_
 go_wp2_with fail
 refine (d0c x1 y1 z1 false HB1.out _).mono ?_
 rintro e' w4 ⟨rfl, hf4⟩
 have st4 := st3.keep hf4
 clear st3 hf4
 go_wp2_with (with_reducible refine wSk 20 ?_)
 refine a0o st4 1 rfl rfl rfl Tryz.underlying54 rfl rfl (by kernel_rfl) ?_
 go_wp2_with fail
 refine (d0c x2 y2 z2 false HB2.out _).mono ?_
 rintro e' w5 ⟨rfl, hf5⟩
 have st5 := st4.keep hf5
 clear st4 hf5
 go_wp2_with fail
 refine wp_region_noPanic ?_
 refine a0g st5 7 [.o 6, .w 1, .t 2, .w 3, .t 4, .c 0, .c 5, .j 6] (.m 7 .nil) (by kernel_rfl) (by kernel_rfl) (fun _ _ _ _ _ h => h) ?_
 clear st5
 refine b0e rfl rfl rfl e0I (cw 4 0) rfl ?_
 try simp only [clL]
 refine a0n (v := ?_) rfl rfl (fun xq wx => ?_) ?_; rotate_left 1; · (go_simp; with_reducible rfl)
 try simp only [clL]
 refine a0e rfl rfl rfl (fun _ => rfl) (cw 4 (kN y2)) (fun wx hS => St.rangeL hS 1 rfl 4 _ (l0A _ _ _)) Tryz.underlying50 rfl (by kernel_rfl) ?_
 try simp only [clL]
 refine a0n (v := ?_) rfl rfl (fun xq wx => ?_) ?_; rotate_left 1; · (go_simp; with_reducible rfl)
 try simp only [clL]
 refine a0e rfl rfl rfl (fun _ => rfl) (cw 4 (kN z1)) (fun wx hS => St.rangeL hS 0 rfl 8 _ (f0g _ _ _)) Tryz.underlying50 rfl (by kernel_rfl) ?_
 try simp only [clL]
 refine a0c rfl rfl rfl Tryz.call45 (fun w hS hR => a0K _) (fun _ => rfl) ?_
 try simp only [clL]
 refine a0c rfl rfl rfl Tryz.call47 (fun w hS hR => d0T y2 z1 u Hu.out _) (fun _ => rfl) ?_
 try simp only [clL]
 refine b0f List.mem_cons_self fun g6 => ?_
 simp only [upd, reduceIte]
 refine a0y fun xq w6 st6 hR => ?_
 try dsimp only
 clear hR xq
 refine a0r rfl rfl ?_
 refine a0j st6 3 rfl rfl rfl rfl (by simp [a0a]) (by kernel_rfl) (a0i _ _) ?_
 intro w7 st7
 repeat (first | simp only [List.cons_append] at st7 | simp only [List.nil_append] at st7 | simp only [List.set_cons_succ] at st7 | simp only [List.set_cons_zero] at st7)
 clear st6
 try simp only [Act.put]
 refine a0k ?_
 refine NoPanic.normal ?_
 go_wp2_with fail
 refine wp_region_noPanic ?_
 refine a0g st7 7 [.o 6, .w 1, .t 2, .w 3, .t 4, .c 0, .c 5, .j 6] (.m 7 .nil) (by kernel_rfl) (by kernel_rfl) (fun _ _ _ _ _ h => h) ?_
 clear st7
 refine b0e rfl rfl rfl e0I (cw 4 0) rfl ?_
 try simp only [clL]
 refine a0n (v := ?_) rfl rfl (fun xq wx => ?_) ?_; rotate_left 1; · (go_simp; with_reducible rfl)
 try simp only [clL]
 refine a0e rfl rfl rfl (fun _ => rfl) (cw 4 (kN x2)) (fun wx hS => St.rangeL hS 1 rfl 0 _ (j0M _ _ _)) Tryz.underlying50 rfl (by kernel_rfl) ?_
 try simp only [clL]
 refine a0n (v := ?_) rfl rfl (fun xq wx => ?_) ?_; rotate_left 1; · (go_simp; with_reducible rfl)
 try simp only [clL]
 refine a0e rfl rfl rfl (fun _ => rfl) (cw 4 (kN z1)) (fun wx hS => St.rangeL hS 0 rfl 8 _ (f0g _ _ _)) Tryz.underlying50 rfl (by kernel_rfl) ?_
 try simp only [clL]
 refine a0c rfl rfl rfl Tryz.call45 (fun w hS hR => a0K _) (fun _ => rfl) ?_
 try simp only [clL]
 refine a0c rfl rfl rfl Tryz.call47 (fun w hS hR => d0T x2 z1 v Hv.out _) (fun _ => rfl) ?_
 try simp only [clL]
 refine b0f List.mem_cons_self fun g7 => ?_
 simp only [upd, reduceIte]
 refine a0y fun xq w8 st8 hR => ?_
 try dsimp only
 clear hR xq
 refine a0r rfl rfl ?_
 refine a0j st8 4 rfl rfl rfl rfl (by simp [a0a]) (by kernel_rfl) (a0i _ _) ?_
 intro w9 st9
 repeat (first | simp only [List.cons_append] at st9 | simp only [List.nil_append] at st9 | simp only [List.set_cons_succ] at st9 | simp only [List.set_cons_zero] at st9)
 clear st8
 try simp only [Act.put]
 refine a0k ?_
 refine NoPanic.normal ?_
 go_wp2_with fail
 refine wp_region_noPanic ?_
 refine a0g st9 7 [.o 6, .w 1, .t 2, .w 3, .t 4, .c 0, .c 5, .j 6] (.m 7 .nil) (by kernel_rfl) (by kernel_rfl) (fun _ _ _ _ _ h => h) ?_
 clear st9
 refine b0e rfl rfl rfl e0I (cw 4 0) rfl ?_
 try simp only [clL]
 refine a0n (v := ?_) rfl rfl (fun xq wx => ?_) ?_; rotate_left 1; · (go_simp; with_reducible rfl)
 try simp only [clL]
 refine a0e rfl rfl rfl (fun _ => rfl) (cw 4 (kN y1)) (fun wx hS => St.rangeL hS 0 rfl 4 _ (l0A _ _ _)) Tryz.underlying50 rfl (by kernel_rfl) ?_
 try simp only [clL]
 refine a0n (v := ?_) rfl rfl (fun xq wx => ?_) ?_; rotate_left 1; · (go_simp; with_reducible rfl)
 try simp only [clL]
 refine a0e rfl rfl rfl (fun _ => rfl) (cw 4 (kN z2)) (fun wx hS => St.rangeL hS 1 rfl 8 _ (f0g _ _ _)) Tryz.underlying50 rfl (by kernel_rfl) ?_
 try simp only [clL]
 refine a0c rfl rfl rfl Tryz.call45 (fun w hS hR => a0K _) (fun _ => rfl) ?_
 try simp only [clL]
 refine a0c rfl rfl rfl Tryz.call47 (fun w hS hR => d0T y1 z2 u2 Hu2.out _) (fun _ => rfl) ?_
 try simp only [clL]
 refine b0f List.mem_cons_self fun g8 => ?_
 simp only [upd, reduceIte]
 refine a0y fun xq w10 st10 hR => ?_
 try dsimp only
 clear hR xq
 refine a0r rfl rfl ?_
 refine a0j st10 5 rfl rfl rfl rfl (by simp [a0a]) (by kernel_rfl) (a0i _ _) ?_
 intro w11 st11
 repeat (first | simp only [List.cons_append] at st11 | simp only [List.nil_append] at st11 | simp only [List.set_cons_succ] at st11 | simp only [List.set_cons_zero] at st11)
 clear st10
 try simp only [Act.put]
 refine a0k ?_
 refine NoPanic.normal ?_
 go_wp2_with fail
 refine wp_region_noPanic ?_
 refine a0g st11 7 [.o 6, .w 1, .t 2, .w 3, .t 4, .c 0, .c 5, .j 6] (.m 7 .nil) (by kernel_rfl) (by kernel_rfl) (fun _ _ _ _ _ h => h) ?_
 clear st11
 refine b0e rfl rfl rfl e0I (cw 4 0) rfl ?_
 try simp only [clL]
 refine a0n (v := ?_) rfl rfl (fun xq wx => ?_) ?_; rotate_left 1; · (go_simp; with_reducible rfl)
 try simp only [clL]
 refine a0e rfl rfl rfl (fun _ => rfl) (cw 4 (kN x1)) (fun wx hS => St.rangeL hS 0 rfl 0 _ (j0M _ _ _)) Tryz.underlying50 rfl (by kernel_rfl) ?_
 try simp only [clL]
 refine a0n (v := ?_) rfl rfl (fun xq wx => ?_) ?_; rotate_left 1; · (go_simp; with_reducible rfl)
 try simp only [clL]
 refine a0e rfl rfl rfl (fun _ => rfl) (cw 4 (kN z2)) (fun wx hS => St.rangeL hS 1 rfl 8 _ (f0g _ _ _)) Tryz.underlying50 rfl (by kernel_rfl) ?_
 try simp only [clL]
 refine a0c rfl rfl rfl Tryz.call45 (fun w hS hR => a0K _) (fun _ => rfl) ?_
 try simp only [clL]
 refine a0c rfl rfl rfl Tryz.call47 (fun w hS hR => d0T x1 z2 v2 Hv2.out _) (fun _ => rfl) ?_
 try simp only [clL]
 refine b0f List.mem_cons_self fun g9 => ?_
 simp only [upd, reduceIte]
 refine a0y fun xq w12 st12 hR => ?_
 try dsimp only
 clear hR xq
 refine a0r rfl rfl ?_
 refine a0j st12 6 rfl rfl rfl rfl (by simp [a0a]) (by kernel_rfl) (a0i _ _) ?_
 intro w13 st13
 repeat (first | simp only [List.cons_append] at st13 | simp only [List.nil_append] at st13 | simp only [List.set_cons_succ] at st13 | simp only [List.set_cons_zero] at st13)
 clear st12
 try simp only [Act.put]
 refine a0k ?_
 refine NoPanic.normal ?_
 go_wp2_with (with_reducible refine wSk 48 ?_)
 refine a0h st13 4 rfl rfl rfl Tryz.underlying50 rfl (by kernel_rfl) ?_
 go_wp2_with (with_reducible refine wSk 49 ?_)
 refine a0h st13 6 rfl rfl rfl Tryz.underlying50 rfl (by kernel_rfl) ?_
 go_wp2_with (with_reducible refine wSk 50 ?_)
 refine e0E rfl (h0I v v2 rfl rfl rfl HV.out _) ?_
 go_wp2_with fail
 refine wp_region_noPanic ?_
 refine a0g st13 5 [.o 4, .t 1, .t 2, .c 0, .c 3, .j 4] (.m 5 .nil) (by kernel_rfl) (by kernel_rfl) (fun _ _ _ _ _ h => h) ?_
 clear st13
 refine b0e rfl rfl rfl e0I (cw 4 0) rfl ?_
 try simp only [clL]
 refine a0e rfl rfl rfl (fun _ => rfl) (cw 4 (kN u)) (fun wx hS => St.rangeL hS 3 rfl 0 _ dZl) Tryz.underlying50 rfl (by kernel_rfl) ?_
 try simp only [clL]
 refine a0e rfl rfl rfl (fun _ => rfl) (cw 4 (kN u2)) (fun wx hS => St.rangeL hS 5 rfl 0 _ dZl) Tryz.underlying50 rfl (by kernel_rfl) ?_
 try simp only [clL]
 refine a0c rfl rfl rfl Tryz.call45 (fun w hS hR => a0K _) (fun _ => rfl) ?_
 try simp only [clL]
 refine a0c rfl rfl rfl Tryz.call112 (fun w hS hR => u0g u u2 d Hd.out _) (fun _ => rfl) ?_
 try simp only [clL]
 refine b0f List.mem_cons_self fun g10 => ?_
 simp only [upd, reduceIte]
 refine a0y fun xq w14 st14 hR => ?_
 try dsimp only
 clear hR xq
 refine a0r rfl rfl ?_
 refine a0j st14 7 rfl rfl rfl rfl (by simp [a0a]) (by kernel_rfl) (a0i _ _) ?_
 intro w15 st15
 repeat (first | simp only [List.cons_append] at st15 | simp only [List.nil_append] at st15 | simp only [List.set_cons_succ] at st15 | simp only [List.set_cons_zero] at st15)
 clear st14
 try simp only [Act.put]
 refine a0k ?_
 refine NoPanic.normal ?_
 go_wp2_with fail
 refine wp_region_noPanic ?_
 refine a0g st15 5 [.o 4, .t 1, .t 2, .c 0, .c 3, .j 4] (.m 5 .nil) (by kernel_rfl) (by kernel_rfl) (fun _ _ _ _ _ h => h) ?_
 clear st15
 refine b0e rfl rfl rfl e0I (cw 4 0) rfl ?_
 try simp only [clL]
 refine a0e rfl rfl rfl (fun _ => rfl) (cw 4 (kN v)) (fun wx hS => St.rangeL hS 4 rfl 0 _ dZl) Tryz.underlying50 rfl (by kernel_rfl) ?_
 try simp only [clL]
 refine a0e rfl rfl rfl (fun _ => rfl) (cw 4 (kN v2)) (fun wx hS => St.rangeL hS 6 rfl 0 _ dZl) Tryz.underlying50 rfl (by kernel_rfl) ?_
 try simp only [clL]
 refine a0c rfl rfl rfl Tryz.call45 (fun w hS hR => a0K _) (fun _ => rfl) ?_
 try simp only [clL]
 refine a0c rfl rfl rfl Tryz.call112 (fun w hS hR => u0g v v2 ee Hee.out _) (fun _ => rfl) ?_
 try simp only [clL]
 refine b0f List.mem_cons_self fun g11 => ?_
 simp only [upd, reduceIte]
 refine a0y fun xq w16 st16 hR => ?_
 try dsimp only
 clear hR xq
 refine a0r rfl rfl ?_
 refine a0j st16 8 rfl rfl rfl rfl (by simp [a0a]) (by kernel_rfl) (a0i _ _) ?_
 intro w17 st17
 repeat (first | simp only [List.cons_append] at st17 | simp only [List.nil_append] at st17 | simp only [List.set_cons_succ] at st17 | simp only [List.set_cons_zero] at st17)
 clear st16
 try simp only [Act.put]
 refine a0k ?_
 refine NoPanic.normal ?_
 go_wp2_with fail
 refine wp_region_noPanic ?_
 refine a0g st17 7 [.o 6, .w 1, .t 2, .w 3, .t 4, .c 0, .c 5, .j 6] (.m 7 .nil) (by kernel_rfl) (by kernel_rfl) (fun _ _ _ _ _ h => h) ?_
 clear st17
 refine b0e rfl rfl rfl e0I (cw 4 0) rfl ?_
 try simp only [clL]
 refine a0n (v := ?_) rfl rfl (fun xq wx => ?_) ?_; rotate_left 1; · (go_simp; with_reducible rfl)
 try simp only [clL]
 refine a0e rfl rfl rfl (fun _ => rfl) (cw 4 (kN z1)) (fun wx hS => St.rangeL hS 0 rfl 8 _ (f0g _ _ _)) Tryz.underlying50 rfl (by kernel_rfl) ?_
 try simp only [clL]
 refine a0n (v := ?_) rfl rfl (fun xq wx => ?_) ?_; rotate_left 1; · (go_simp; with_reducible rfl)
 try simp only [clL]
 refine a0e rfl rfl rfl (fun _ => rfl) (cw 4 (kN z2)) (fun wx hS => St.rangeL hS 1 rfl 8 _ (f0g _ _ _)) Tryz.underlying50 rfl (by kernel_rfl) ?_
 try simp only [clL]
 refine a0c rfl rfl rfl Tryz.call45 (fun w hS hR => a0K _) (fun _ => rfl) ?_
 try simp only [clL]
 refine a0c rfl rfl rfl Tryz.call47 (fun w hS hR => d0T z1 z2 ww Hww.out _) (fun _ => rfl) ?_
 try simp only [clL]
 refine b0f List.mem_cons_self fun g12 => ?_
 simp only [upd, reduceIte]
 refine a0y fun xq w18 st18 hR => ?_
 try dsimp only
 clear hR xq
 refine a0r rfl rfl ?_
 refine a0j st18 9 rfl rfl rfl rfl (by simp [a0a]) (by kernel_rfl) (a0i _ _) ?_
 intro w19 st19
 repeat (first | simp only [List.cons_append] at st19 | simp only [List.nil_append] at st19 | simp only [List.set_cons_succ] at st19 | simp only [List.set_cons_zero] at st19)
 clear st18
 try simp only [Act.put]
 refine a0k ?_
 refine NoPanic.normal ?_
 go_wp2_with fail
 refine wp_region_noPanic ?_
 refine a0g st19 5 [.o 4, .t 1, .t 2, .c 0, .c 3, .j 4] (.m 5 .nil) (by kernel_rfl) (by kernel_rfl) (fun _ _ _ _ _ h => h) ?_
 clear st19
 refine b0e rfl rfl rfl e0I (cw 4 0) rfl ?_
 try simp only [clL]
 refine a0e rfl rfl rfl (fun _ => rfl) (cw 4 (kN ee)) (fun wx hS => St.rangeL hS 8 rfl 0 _ dZl) Tryz.underlying50 rfl (by kernel_rfl) ?_
 try simp only [clL]
 refine a0e rfl rfl rfl (fun _ => rfl) (cw 4 (kN ee)) (fun wx hS => St.rangeL hS 8 rfl 0 _ dZl) Tryz.underlying50 rfl (by kernel_rfl) ?_
 try simp only [clL]
 refine a0c rfl rfl rfl Tryz.call45 (fun w hS hR => a0K _) (fun _ => rfl) ?_
 try simp only [clL]
 refine a0c rfl rfl rfl Tryz.call47 (fun w hS hR => d0T ee ee e2 He2.out _) (fun _ => rfl) ?_
 try simp only [clL]
 refine b0f List.mem_cons_self fun g13 => ?_
 simp only [upd, reduceIte]
 refine a0y fun xq w20 st20 hR => ?_
 try dsimp only
 clear hR xq
 refine a0r rfl rfl ?_
 refine a0j st20 10 rfl rfl rfl rfl (by simp [a0a]) (by kernel_rfl) (a0i _ _) ?_
 intro w21 st21
 repeat (first | simp only [List.cons_append] at st21 | simp only [List.nil_append] at st21 | simp only [List.set_cons_succ] at st21 | simp only [List.set_cons_zero] at st21)
 clear st20
 try simp only [Act.put]
 refine a0k ?_
 refine NoPanic.normal ?_
 go_wp2_with fail
 refine wp_region_noPanic ?_
 refine a0g st21 5 [.o 4, .t 1, .t 2, .c 0, .c 3, .j 4] (.m 5 .nil) (by kernel_rfl) (by kernel_rfl) (fun _ _ _ _ _ h => h) ?_
 clear st21
 refine b0e rfl rfl rfl e0I (cw 4 0) rfl ?_
 try simp only [clL]
 refine a0e rfl rfl rfl (fun _ => rfl) (cw 4 (kN e2)) (fun wx hS => St.rangeL hS 10 rfl 0 _ dZl) Tryz.underlying50 rfl (by kernel_rfl) ?_
 try simp only [clL]
 refine a0e rfl rfl rfl (fun _ => rfl) (cw 4 (kN ee)) (fun wx hS => St.rangeL hS 8 rfl 0 _ dZl) Tryz.underlying50 rfl (by kernel_rfl) ?_
 try simp only [clL]
 refine a0c rfl rfl rfl Tryz.call45 (fun w hS hR => a0K _) (fun _ => rfl) ?_
 try simp only [clL]
 refine a0c rfl rfl rfl Tryz.call47 (fun w hS hR => d0T e2 ee e3 He3.out _) (fun _ => rfl) ?_
 try simp only [clL]
 refine b0f List.mem_cons_self fun g14 => ?_
 simp only [upd, reduceIte]
 refine a0y fun xq w22 st22 hR => ?_
 try dsimp only
 clear hR xq
 refine a0r rfl rfl ?_
 refine a0j st22 11 rfl rfl rfl rfl (by simp [a0a]) (by kernel_rfl) (a0i _ _) ?_
 intro w23 st23
 repeat (first | simp only [List.cons_append] at st23 | simp only [List.nil_append] at st23 | simp only [List.set_cons_succ] at st23 | simp only [List.set_cons_zero] at st23)
 clear st22
 try simp only [Act.put]
 refine a0k ?_
 refine NoPanic.normal ?_
 go_wp2_with fail
 refine wp_region_noPanic ?_
 refine a0g st23 20 [.o 19, .t 4, .t 5, .t 7, .t 9, .t 13, .t 14, .t 16, .c 0, .c 1, .c 2, .c 3, .c 6, .c 8, .c 10, .c 11, .c 12, .c 15, .c 17, .c 18, .j 19] (.m 20 .nil) (by kernel_rfl) (by kernel_rfl) (fun _ _ _ _ _ h => h) ?_
 clear st23
 refine b0e rfl rfl rfl e0I (cw 4 0) rfl ?_
 try simp only [clL]
 refine a0e rfl rfl rfl (fun _ => rfl) (cw 4 (kN d)) (fun wx hS => St.rangeL hS 7 rfl 0 _ dZl) Tryz.underlying50 rfl (by kernel_rfl) ?_
 try simp only [clL]
 refine a0e rfl rfl rfl (fun _ => rfl) (cw 4 (kN d)) (fun wx hS => St.rangeL hS 7 rfl 0 _ dZl) Tryz.underlying50 rfl (by kernel_rfl) ?_
 try simp only [clL]
 refine a0e rfl rfl rfl (fun _ => rfl) (cw 4 (kN ww)) (fun wx hS => St.rangeL hS 9 rfl 0 _ dZl) Tryz.underlying50 rfl (by kernel_rfl) ?_
 try simp only [clL]
 refine a0e rfl rfl rfl (fun _ => rfl) (cw 4 (kN e3)) (fun wx hS => St.rangeL hS 11 rfl 0 _ dZl) Tryz.underlying50 rfl (by kernel_rfl) ?_
 try simp only [clL]
 refine a0e rfl rfl rfl (fun _ => rfl) (cw 4 (kN v2)) (fun wx hS => St.rangeL hS 6 rfl 0 _ dZl) Tryz.underlying50 rfl (by kernel_rfl) ?_
 try simp only [clL]
 refine a0e rfl rfl rfl (fun _ => rfl) (cw 4 (kN v2)) (fun wx hS => St.rangeL hS 6 rfl 0 _ dZl) Tryz.underlying50 rfl (by kernel_rfl) ?_
 try simp only [clL]
 refine a0e rfl rfl rfl (fun _ => rfl) (cw 4 (kN e2)) (fun wx hS => St.rangeL hS 10 rfl 0 _ dZl) Tryz.underlying50 rfl (by kernel_rfl) ?_
 try simp only [clL]
 refine a0c rfl rfl rfl Tryz.call45 (fun w hS hR => a0K _) (fun _ => rfl) ?_
 try simp only [clL]
 refine a0c rfl rfl rfl Tryz.call45 (fun w hS hR => a0K _) (fun _ => rfl) ?_
 try simp only [clL]
 refine a0c rfl rfl rfl Tryz.call45 (fun w hS hR => a0K _) (fun _ => rfl) ?_
 try simp only [clL]
 refine a0c rfl rfl rfl Tryz.call45 (fun w hS hR => a0K _) (fun _ => rfl) ?_
 try simp only [clL]
 refine a0c rfl rfl rfl Tryz.call47 (fun w hS hR => d0T d d t1 Ht1.out _) (fun _ => rfl) ?_
 try simp only [clL]
 refine a0c rfl rfl rfl Tryz.call47 (fun w hS hR => d0T t1 ww t2 Ht2.out _) (fun _ => rfl) ?_
 try simp only [clL]
 refine a0c rfl rfl rfl Tryz.call112 (fun w hS hR => u0g t2 e3 t3 Ht3.out _) (fun _ => rfl) ?_
 try simp only [clL]
 refine a0c rfl rfl rfl Tryz.call45 (fun w hS hR => a0K _) (fun _ => rfl) ?_
 try simp only [clL]
 refine a0c rfl rfl rfl Tryz.call45 (fun w hS hR => a0K _) (fun _ => rfl) ?_
 try simp only [clL]
 refine a0c rfl rfl rfl Tryz.call113 (fun w hS hR => x0p v2 v2 t4 Ht4.out _) (fun _ => rfl) ?_
 try simp only [clL]
 refine a0c rfl rfl rfl Tryz.call47 (fun w hS hR => d0T t4 e2 t5 Ht5.out _) (fun _ => rfl) ?_
 try simp only [clL]
 refine a0c rfl rfl rfl Tryz.call112 (fun w hS hR => u0g t3 t5 t Ht.out _) (fun _ => rfl) ?_
 try simp only [clL]
 refine b0f List.mem_cons_self fun g15 => ?_
 simp only [upd, reduceIte]
 refine a0y fun xq w24 st24 hR => ?_
 try dsimp only
 clear hR xq
 refine a0r rfl rfl ?_
 refine a0j st24 12 rfl rfl rfl rfl (by simp [a0a]) (by kernel_rfl) (a0i _ _) ?_
 intro w25 st25
 repeat (first | simp only [List.cons_append] at st25 | simp only [List.nil_append] at st25 | simp only [List.set_cons_succ] at st25 | simp only [List.set_cons_zero] at st25)
 clear st24
 try simp only [Act.put]
 refine a0k ?_
 refine NoPanic.normal ?_
 go_wp2_with fail
 refine wp_region_noPanic ?_
 refine a0g st25 25 [.t 1, .t 2, .t 6, .t 9, .t 10, .t 12, .t 16, .t 17, .t 21, .t 22, .c 0, .c 3, .c 4, .c 5, .c 7, .c 8, .c 11, .c 13, .c 14, .c 15, .c 18, .c 19, .c 20, .c 23, .w 24] (.m 25 .nil) (by kernel_rfl) (by kernel_rfl) (fun _ _ _ _ _ h => h) ?_
 clear st25
 refine a0e rfl rfl rfl (fun _ => rfl) (cw 4 (kN ee)) (fun wx hS => St.rangeL hS 8 rfl 0 _ dZl) Tryz.underlying50 rfl (by kernel_rfl) ?_
 try simp only [clL]
 refine a0e rfl rfl rfl (fun _ => rfl) (cw 4 (kN t)) (fun wx hS => St.rangeL hS 12 rfl 0 _ dZl) Tryz.underlying50 rfl (by kernel_rfl) ?_
 try simp only [clL]
 refine a0e rfl rfl rfl (fun _ => rfl) (cw 4 (kN d)) (fun wx hS => St.rangeL hS 7 rfl 0 _ dZl) Tryz.underlying50 rfl (by kernel_rfl) ?_
 try simp only [clL]
 refine a0e rfl rfl rfl (fun _ => rfl) (cw 4 (kN v2)) (fun wx hS => St.rangeL hS 6 rfl 0 _ dZl) Tryz.underlying50 rfl (by kernel_rfl) ?_
 try simp only [clL]
 refine a0e rfl rfl rfl (fun _ => rfl) (cw 4 (kN e2)) (fun wx hS => St.rangeL hS 10 rfl 0 _ dZl) Tryz.underlying50 rfl (by kernel_rfl) ?_
 try simp only [clL]
 refine a0e rfl rfl rfl (fun _ => rfl) (cw 4 (kN t)) (fun wx hS => St.rangeL hS 12 rfl 0 _ dZl) Tryz.underlying50 rfl (by kernel_rfl) ?_
 try simp only [clL]
 refine a0e rfl rfl rfl (fun _ => rfl) (cw 4 (kN u2)) (fun wx hS => St.rangeL hS 5 rfl 0 _ dZl) Tryz.underlying50 rfl (by kernel_rfl) ?_
 try simp only [clL]
 refine a0e rfl rfl rfl (fun _ => rfl) (cw 4 (kN e3)) (fun wx hS => St.rangeL hS 11 rfl 0 _ dZl) Tryz.underlying50 rfl (by kernel_rfl) ?_
 try simp only [clL]
 refine a0e rfl rfl rfl (fun _ => rfl) (cw 4 (kN e3)) (fun wx hS => St.rangeL hS 11 rfl 0 _ dZl) Tryz.underlying50 rfl (by kernel_rfl) ?_
 try simp only [clL]
 refine a0e rfl rfl rfl (fun _ => rfl) (cw 4 (kN ww)) (fun wx hS => St.rangeL hS 9 rfl 0 _ dZl) Tryz.underlying50 rfl (by kernel_rfl) ?_
 try simp only [clL]
 refine a0c rfl rfl rfl Tryz.call45 (fun w hS hR => a0K _) (fun _ => rfl) ?_
 try simp only [clL]
 refine a0c rfl rfl rfl Tryz.call47 (fun w hS hR => d0T ee t X HX.out _) (fun _ => rfl) ?_
 try simp only [clL]
 refine a0c rfl rfl rfl Tryz.call45 (fun w hS hR => a0K _) (fun _ => rfl) ?_
 try simp only [clL]
 refine a0c rfl rfl rfl Tryz.call45 (fun w hS hR => a0K _) (fun _ => rfl) ?_
 try simp only [clL]
 refine a0c rfl rfl rfl Tryz.call45 (fun w hS hR => a0K _) (fun _ => rfl) ?_
 try simp only [clL]
 refine a0c rfl rfl rfl Tryz.call45 (fun w hS hR => a0K _) (fun _ => rfl) ?_
 try simp only [clL]
 refine a0c rfl rfl rfl Tryz.call47 (fun w hS hR => d0T v2 e2 s1 Hs1.out _) (fun _ => rfl) ?_
 try simp only [clL]
 refine a0c rfl rfl rfl Tryz.call112 (fun w hS hR => u0g s1 t s2 Hs2.out _) (fun _ => rfl) ?_
 try simp only [clL]
 refine a0c rfl rfl rfl Tryz.call47 (fun w hS hR => d0T d s2 s3 Hs3.out _) (fun _ => rfl) ?_
 try simp only [clL]
 refine a0c rfl rfl rfl Tryz.call45 (fun w hS hR => a0K _) (fun _ => rfl) ?_
 try simp only [clL]
 refine a0c rfl rfl rfl Tryz.call47 (fun w hS hR => d0T u2 e3 s4 Hs4.out _) (fun _ => rfl) ?_
 try simp only [clL]
 refine a0c rfl rfl rfl Tryz.call112 (fun w hS hR => u0g s3 s4 Y HY.out _) (fun _ => rfl) ?_
 try simp only [clL]
 refine a0c rfl rfl rfl Tryz.call45 (fun w hS hR => a0K _) (fun _ => rfl) ?_
 try simp only [clL]
 refine a0c rfl rfl rfl Tryz.call47 (fun w hS hR => d0T e3 ww Z HZ.out _) (fun _ => rfl) ?_
 try simp only [clL]
 refine a0n rfl rfl (fun _ => b0z rfl _ (j0I _ _ _)) ?_
 try simp only [clL]
 refine a0y fun xq w26 st26 hR => ?_
 try dsimp only
 clear hR xq
 refine a0r rfl rfl ?_
 refine a0j st26 2 rfl rfl rfl rfl (by simp [a0a]) (by kernel_rfl) (a0Z _ _ _) ?_
 intro w27 st27
 try simp only [List.set_cons_zero, List.set_cons_succ] at st27
 clear st26
 try simp only [Act.put]
 refine a0k ?_
 refine NoPanic.normal ?_
 have hr := st27.at 2 rfl
 have hfr := st27.fr
 clear st27
 go_wp2_with fail
 exact bodyPost_ret (a0F rfl rfl hr Tryz.underlying54 rfl (by kernel_rfl)) rfl ⟨rfl, hfr⟩
end
section
open Go.RowKit Go.Mv Mvp Mvq
structure RT where
 x : K
 y : K
 z : K
 on : onC (nm x y z)
def RT.pt (s : RT) : Pt := nm s.x s.y s.z
def RT.L (s : RT) : List Value := rpL s.x s.y s.z
theorem j0J (x y z : K) : (rpL x y z).length = 12 := by simp [rpL, a0a]
theorem RT.len (s : RT) : s.L.length = 12 := j0J _ _ _
theorem RT.one (s : RT) : ∀ v ∈ s.L, v.oneCell' = true := a0Z _ _ _
theorem RT.onP (s : RT) : onC s.pt := s.on
theorem p0m (x y z : K) (ho : onC (nm x y z)) (hz : z ≠ 0) : ∃ X Y Z, nm X Y Z = b0d (nm x y z) (nm x y z) ∧ ∀ wx, Calls Tryz.prog 111 #[rpV x y z] wx fun e w' => e = .returned (rpV X Y Z) ∧ Fr Nob wx w' := by
 refine ⟨_, _, _, ?_, fun wx => r0W x y z _ _ _ _ _ _ _ _ _ _ _ _ _ _ _ _ _ _ _ rfl rfl rfl rfl rfl rfl rfl rfl rfl rfl rfl rfl rfl rfl rfl rfl rfl rfl rfl wx⟩
 exact k0W ho hz (x * x) _ _ _ _ _ rfl (by grind -lia -linarith) (by grind -lia -linarith) rfl rfl (by grind -lia -linarith)
theorem u0h (x1 y1 z1 x2 y2 z2 : K) (ho1 : onC (nm x1 y1 z1)) (ho2 : onC (nm x2 y2 z2)) : ∃ X Y Z, nm X Y Z = b0d (nm x1 y1 z1) (nm x2 y2 z2) ∧ ∀ wx, Calls Tryz.prog 83 #[rpV x1 y1 z1, rpV x2 y2 z2] wx fun e w' => e = .returned (rpV X Y Z) ∧ Fr Nob wx w' := by
 by_cases hz1 : z1 = 0
 ·exact ⟨x2, y2, z2, by rw [x0l hz1]; rfl, fun wx => m0B x1 y1 z1 x2 y2 z2 (by simpa using hz1) wx⟩
 ·by_cases hz2 : z2 = 0
  ·exact ⟨x1, y1, z1, by rw [x0l hz2, b0U], fun wx => m0C x1 y1 z1 x2 y2 z2 (by simpa using hz1) (by simpa using hz2) wx⟩
  ·by_cases hv : x2 * z1 = x1 * z2
   ·have hs := w0s ho1 ho2 hz1 hz2 hv
    by_cases hu : y2 * z1 = y1 * z2
    ·obtain ⟨X, Y, Z, h1, h2⟩ := p0m x1 y1 z1 ho1 hz1
     refine ⟨X, Y, Z, by rw [h1, hs.1 hu], fun wx => r0Z x1 y1 z1 x2 y2 z2 (by simpa using hz1) (by simpa using hz2) _ _ _ _ rfl rfl rfl rfl (by simpa using hv) (by simpa using hu) (by simpa using hs.2.2) X Y Z h2 wx⟩
    ·exact ⟨0, 1, 0, by rw [x0l rfl, hs.2.1 hu], fun wx => r0X x1 y1 z1 x2 y2 z2 (by simpa using hz1) (by simpa using hz2) _ _ _ _ rfl rfl rfl rfl (by simpa using hv) (by simpa using hu) wx⟩
   ·refine ⟨_, _, _, ?_, fun wx => w0Z x1 y1 z1 x2 y2 z2 (by simpa using hz1) (by simpa using hz2) _ _ _ _ _ _ _ _ _ _ _ _ _ _ _ _ _ _ _ _ _ _ rfl rfl rfl rfl rfl rfl rfl rfl rfl rfl rfl rfl rfl rfl rfl rfl rfl rfl rfl rfl rfl rfl (by simpa using hv) wx⟩
    exact r0k ho1 ho2 hz1 hz2 (y2 * z1) (x2 * z1) (y1 * z2) (x1 * z2) _ _ _ _ _ _ rfl rfl rfl rfl rfl rfl (fun h => hv (by
     have h2 : x2 * z1 - x1 * z2 + x1 * z2 = 0 + x1 * z2 := by rw [h]
     grind -lia -linarith)) rfl rfl rfl (by grind -lia -linarith)
theorem m0D (s t : RT) : ∃ r : RT, r.pt = b0d s.pt t.pt ∧ ∀ wx, Calls Tryz.prog 83 #[.agg s.L.toArray, .agg t.L.toArray] wx fun e w' => e = .returned (.agg r.L.toArray) ∧ Fr Nob wx w' := by
 obtain ⟨X, Y, Z, h1, h2⟩ := u0h s.x s.y s.z t.x t.y t.z s.on t.on
 exact ⟨⟨X, Y, Z, by rw [h1]; exact c0u s.on t.on⟩, h1, h2⟩
noncomputable def h0J (s t : RT) : RT := Classical.choose (m0D s t)
theorem m0E (s t : RT) : (h0J s t).pt = b0d s.pt t.pt := (Classical.choose_spec (m0D s t)).1
theorem s0a (s t : RT) (w : World) : Calls Tryz.prog 83 #[.agg s.L.toArray, .agg t.L.toArray] w fun e w' => e = .returned (.agg (h0J s t).L.toArray) ∧ Fr Nob w w' := (Classical.choose_spec (m0D s t)).2 w
def noR : RT := ⟨0, 1, 0, by rw [x0l rfl]; trivial⟩
theorem y0L : noR.pt = .O := x0l rfl
theorem x0a (w : World) : Calls Tryz.prog 82 #[] w fun e w' => e = .returned (.agg noR.L.toArray) ∧ Fr Nob w w' := l0u w
def RT.isO (s : RT) : Bool := decide (s.z = 0)
theorem RT.isO_t {s : RT} (h : s.isO = true) : s.pt = .O := x0l (by simpa [RT.isO] using h)
theorem v0j (x y : K) : nm x y 1 = .A x y := o0V (by decide) (by grind -lia -linarith) (by grind -lia -linarith)
def z0M (x y : K) (h : onC (.A x y)) : RT := ⟨x, y, 1, by rw [v0j]; exact h⟩
theorem x0b (x y : K) (h : onC (.A x y)) : (z0M x y h).pt = .A x y := v0j x y
noncomputable def g0r (n : Nat) (s : RT) : Nat → RT
 | 0 => noR
 | k + 1 => if n / 2 ^ (255 - k) % 2 = 1 then h0J (h0J (g0r n s k) (g0r n s k)) s else h0J (g0r n s k) (g0r n s k)
theorem s0b (n : Nat) (s : RT) (k : Nat) : g0r n s (k + 1) = if n / 2 ^ (255 - k) % 2 = 1 then h0J (h0J (g0r n s k) (g0r n s k)) s else h0J (g0r n s k) (g0r n s k) := rfl
theorem s0c (n : Nat) (s : RT) : g0r n s 0 = noR := rfl
theorem s0d (n : Nat) (hn : n < 2 ^ 256) (s : RT) : ∀ k, k ≤ 256 → (g0r n s k).pt = b0D (n / 2 ^ (256 - k)) s.pt
 | 0, _ => by
  show noR.pt = _
  rw [y0L, Nat.sub_zero, Nat.div_eq_of_lt hn]
  rfl
 | k + 1, h => by
  have ih := s0d n hn s k (by omega)
  have hb := n0E s.on n (255 - k)
  rw [show 256 - (k + 1) = 255 - k by omega]
  rw [show 256 - k = 255 - k + 1 by omega] at ih
  show _ = b0D (n / 2 ^ (255 - k)) (nm s.x s.y s.z)
  rw [hb]
  show (if n / 2 ^ (255 - k) % 2 = 1 then h0J (h0J (g0r n s k) (g0r n s k)) s else h0J (g0r n s k) (g0r n s k)).pt = _
  by_cases h1 : n / 2 ^ (255 - k) % 2 = 1
  ·rw [if_pos h1, if_pos h1, m0E, m0E, ih]; rfl
  ·rw [if_neg h1, if_neg h1, m0E, ih, b0U]; rfl
noncomputable def d0k (n : Nat) (s : RT) : RT := g0r n s 256
theorem s0e (n : Nat) (hn : n < 2 ^ 256) (s : RT) : (d0k n s).pt = b0D n s.pt := by
 have := s0d n hn s 256 (Nat.le_refl _)
 rwa [Nat.sub_self, Nat.pow_zero, Nat.div_one] at this
end
section
open Go.RowKit Go.Mv Mvp Mvq
attribute [local irreducible] a0J lw mix cw b0t b0G b0q a0P a0u beN laid b0o b0H a0M a0V elN mdL b0R rtV c0E kN kc c0k d0U h0J noR d0k g0r RT.L
theorem u0i (n : Nat) (s : RT) (w : World) : Calls Tryz.prog 42 #[i4 n, .agg s.L.toArray] w fun e w' => e = .returned (.agg (d0k n s).L.toArray) ∧ Fr Nob w w' := by
 unfold d0k
 have st0 := St.start Nob w
 go_enter Tryz.func42, Tryz.ntmps42
 go_wp2_with (with_reducible refine wSk 2 ?_)
 refine a0m st0 rfl rfl rfl (cw 4 n) rfl ?_
 intro g2 w1 st1
 clear st0
 go_wp2_with (with_reducible refine wSk 3 ?_)
 refine a0m st1 rfl rfl rfl (s.L) rfl ?_
 intro g3 w2 st2
 clear st1
 go_wp2_with (with_reducible refine wSk 4 ?_)
 refine a0b st2 rfl rfl (z := zAc) (by kernel_rfl) (cw 12 0) (by rw [a0f]; rfl) ?_
 intro g4 w3 st3
 clear st2
 go_wp2_with fail
 refine (x0a _).mono ?_
 rintro e' w4 ⟨rfl, hf4⟩
 have st4 := st3.keep hf4
 clear st3 hf4
 go_wp2_with (with_reducible refine wSk 5 ?_)
 refine a0b st4 rfl rfl (z := zAc) (by kernel_rfl) (cw 12 0) (by rw [a0f]; rfl) ?_
 intro g5 w5 st5
 clear st4
 go_wp2_with (with_reducible refine wSn ?_)
 refine a0d st5 3 rfl rfl rfl rfl rfl (by first | (simp [a0a]; done) | (simp [RT.len]; done) | (simp [a0a, RT.len]; done) | simp [a0a, RT.len]) (by kernel_rfl) (RT.one _) ?_
 intro w6 st6
 clear st5
 go_wp2
 go_loopw [6] (fun i wr => ∃ k : Nat, k ≤ 256 ∧ i = .int .i64 (255 - (k : Int)) ∧ St Nob w wr [(g2, cw 4 n, 50), (g3, s.L, 54), (g4, cw 12 0, 54), (g5, (g0r n s k).L, 54)]) (fun i _ => (intOf i + 1).toNat)
 case atStart => exact ⟨0, by omega, rfl, by rw [s0c]; exact st6⟩
 case round =>
  obtain ⟨k, hk, rfl, st⟩ := hrel
  clear st6
  rcases Nat.lt_or_ge k 256 with hk2 | hk2
  ·have hge : (0 : Int) ≤ 255 - (k : Int) := by omega
   have hrec := s0b n s k
   generalize hT' : g0r n s (k + 1) = T' at *
   have HT' := qH hT'
   clear hT'
   generalize g0r n s k = T at *
   have hbit := fun wx => g0d n (255 - k) wx (by omega)
   rw [show (((255 - k : Nat)) : Int) = 255 - (k : Int) by omega] at hbit
   have hb2 : n / 2 ^ (255 - k) % 2 < 2 := Nat.mod_lt _ (by decide)
   generalize n / 2 ^ (255 - k) % 2 = b at *
   have HREC := qH hrec
   have HBIT := qH hbit
   clear hrec hbit
   go_wp2_with (with_reducible refine wSk 12 ?_)
   refine a0o st 3 rfl rfl rfl Tryz.underlying54 rfl rfl (by kernel_rfl) ?_
   go_wp2_with (with_reducible refine wSk 13 ?_)
   refine a0o st 3 rfl rfl rfl Tryz.underlying54 rfl rfl (by kernel_rfl) ?_
   go_wp2_with fail
   refine (s0a T T _).mono ?_
   rintro e' w7 ⟨rfl, hf7⟩
   have st7 := st.keep hf7
   clear st hf7
   go_wp2_with (with_reducible refine wSn ?_)
   refine a0d st7 3 rfl rfl rfl rfl rfl (by simp [RT.len]) (by kernel_rfl) (RT.one _) ?_
   intro w8 st8
   clear st7
   go_wp2_with (with_reducible refine wSk 15 ?_)
   refine a0h st8 0 rfl rfl rfl Tryz.underlying50 rfl (by kernel_rfl) ?_
   go_wp2_with fail
   refine (HBIT.out _).mono ?_
   rintro e' w9 ⟨rfl, hf9⟩
   have st9 := st8.keep hf9
   clear st8 hf9
   obtain rfl | rfl : b = 0 ∨ b = 1 := by omega
   ·have HE := qH (show T' = h0J T T by rw [HREC.out]; rfl)
    clear hb2
    go_wp2
    go_roundw
    case rel => exact ⟨k + 1, by omega, by go_num, by rw [HT'.out, HE.out]; exact st9⟩
    case measure => simp [intOf]; omega
   ·have HE := qH (show T' = h0J (h0J T T) s by rw [HREC.out]; rfl)
    clear hb2
    go_wp2_with (with_reducible refine wSk 19 ?_)
    refine a0o st9 3 rfl rfl rfl Tryz.underlying54 rfl rfl (by kernel_rfl) ?_
    go_wp2_with (with_reducible refine wSk 20 ?_)
    refine a0o st9 1 rfl rfl rfl Tryz.underlying54 rfl rfl (by kernel_rfl) ?_
    go_wp2_with fail
    refine (s0a (h0J T T) s _).mono ?_
    rintro e' w10 ⟨rfl, hf10⟩
    have st10 := st9.keep hf10
    clear st9 hf10
    go_wp2_with (with_reducible refine wSn ?_)
    refine a0d st10 3 rfl rfl rfl rfl rfl (by simp [RT.len]) (by kernel_rfl) (RT.one _) ?_
    intro w11 st11
    clear st10
    go_wp2
    go_roundw
    case rel => exact ⟨k + 1, by omega, by go_num, by rw [HT'.out, HE.out]; exact st11⟩
    case measure => simp [intOf]; omega
  ·have hk3 : k = 256 := by omega
   subst hk3
   have hge : ¬ ((0 : Int) ≤ 255 - ((256 : Nat) : Int)) := by omega
   go_wp2_with (with_reducible refine wSk 22 ?_)
   refine a0o st 3 rfl rfl rfl Tryz.underlying54 rfl rfl (by kernel_rfl) ?_
   go_wp2_with (with_reducible refine wSn ?_)
   refine a0d st 2 rfl rfl rfl rfl rfl (by first | (simp [a0a]; done) | (simp [RT.len]; done) | (simp [a0a, RT.len]; done) | simp [a0a, RT.len]) (by kernel_rfl) (RT.one _) ?_
   intro w7 st7
   clear st
   have hr := st7.at 2 rfl
   have hfr := st7.fr
   clear st7
   go_wp2_with fail
   exact bodyPost_ret (a0F rfl rfl hr Tryz.underlying54 rfl (by kernel_rfl)) rfl ⟨rfl, hfr⟩
theorem z0B (x : K) (xx x3 cv : K) (exx : x * x = xx) (ex3 : xx * x = x3) (ecv : x3 + 7 = cv) (hr : c0E fP (kN cv) = true) (w : World) : Calls Tryz.prog 85 #[i4 (kN x)] w fun e w' => e = .returned (.tuple #[rpV x (kc (rtV fP (kN cv))) 1, .bool true]) ∧ Fr Nob w w' := by
 have HR := qH hr
 clear hr
 have Hxx := qH exx
 have Hx3 := qH ex3
 have Hcv := qH ecv
 clear exx ex3 ecv
 unfold rpV rpL
 have st0 := St.start Nob w
 go_enter Tryz.func85, Tryz.ntmps85
 go_wp2_with (with_reducible refine wSk 1 ?_)
 refine a0m st0 rfl rfl rfl (cw 4 (kN x)) rfl ?_
 intro g1 w1 st1
 clear st0
 go_wp2_with (with_reducible refine wSk 2 ?_)
 refine a0b st1 rfl rfl (z := zAc) (by kernel_rfl) (cw 12 0) (by rw [a0f]; rfl) ?_
 intro g2 w2 st2
 clear st1
 go_wp2_with fail
 refine wp_region_noPanic ?_
 refine a0g st2 17 [.o 15, .t 4, .t 5, .t 7, .c 0, .c 1, .c 2, .c 3, .c 6, .c 8, .c 9, .c 10, .c 11, .w 12, .w 13, .w 14, .j 15] (.r 16 (.m 17 .nil)) (by kernel_rfl) (by kernel_rfl) (fun _ _ _ _ _ h => h) ?_
 clear st2
 refine b0e rfl rfl rfl e0I (cw 4 0) rfl ?_
 try simp only [clL]
 refine a0e rfl rfl rfl (fun _ => rfl) (cw 4 (kN x)) (fun wx hS => St.rangeL hS 0 rfl 0 _ dZl) Tryz.underlying50 rfl (by kernel_rfl) ?_
 try simp only [clL]
 refine a0e rfl rfl rfl (fun _ => rfl) (cw 4 (kN x)) (fun wx hS => St.rangeL hS 0 rfl 0 _ dZl) Tryz.underlying50 rfl (by kernel_rfl) ?_
 try simp only [clL]
 refine a0e rfl rfl rfl (fun _ => rfl) (cw 4 (kN x)) (fun wx hS => St.rangeL hS 0 rfl 0 _ dZl) Tryz.underlying50 rfl (by kernel_rfl) ?_
 try simp only [clL]
 refine a0c rfl rfl rfl Tryz.call45 (fun w hS hR => a0K _) (fun _ => rfl) ?_
 try simp only [clL]
 refine a0c rfl rfl rfl Tryz.call45 (fun w hS hR => a0K _) (fun _ => rfl) ?_
 try simp only [clL]
 refine a0c rfl rfl rfl Tryz.call45 (fun w hS hR => a0K _) (fun _ => rfl) ?_
 try simp only [clL]
 refine a0c rfl rfl rfl Tryz.call45 (fun w hS hR => a0K _) (fun _ => rfl) ?_
 try simp only [clL]
 refine a0c rfl rfl rfl Tryz.call47 (fun w hS hR => d0T x x xx Hxx.out _) (fun _ => rfl) ?_
 try simp only [clL]
 refine a0c rfl rfl rfl Tryz.call47 (fun w hS hR => d0T xx x x3 Hx3.out _) (fun _ => rfl) ?_
 try simp only [clL]
 refine a0c rfl rfl rfl Tryz.call110 (fun w hS hR => w0V _) (fun _ => rfl) ?_
 try simp only [clL]
 refine a0c rfl rfl rfl Tryz.call113 (fun w hS hR => x0p x3 7 cv Hcv.out _) (fun _ => rfl) ?_
 try simp only [clL]
 refine a0c rfl rfl rfl Tryz.call114 (fun w hS hR => w0W (kN cv) (u0f _) HR.out _) (fun _ => rfl) ?_
 try simp only [clL]
 iterate 3 (refine a0n (v := ?_) rfl rfl (fun xq wx => ?_) ?_; rotate_left 1; · (go_simp; with_reducible rfl); try simp only [clL])
 refine b0f List.mem_cons_self fun g4 => ?_
 simp only [upd, reduceIte]
 refine a0y fun xq w3 st3 hR => ?_
 try dsimp only
 clear hR xq
 refine a0A rfl rfl ?_
 refine a0j st3 2 rfl rfl rfl rfl (by simp [a0a]) (by kernel_rfl) (a0i _ _) ?_
 intro w4 st4
 repeat (first | simp only [List.cons_append] at st4 | simp only [List.nil_append] at st4 | simp only [List.set_cons_succ] at st4 | simp only [List.set_cons_zero] at st4)
 clear st3
 refine ⟨by first | exact st4 | exact St.less st4 (by simp), ?_⟩
 try simp only [Act.put]
 refine a0r rfl rfl ?_
 go_simp
 try simp only [clL]
 refine a0k ?_
 refine NoPanic.normal ?_
 go_wp2_with fail
 refine wp_region_noPanic ?_
 refine a0g st4 5 [.t 0, .t 1, .w 4, .c 2, .w 3] (.m 5 (.w 6 .nil)) (by kernel_rfl) (by kernel_rfl) (fun _ _ _ _ _ h => h) ?_
 clear st4
 refine a0e rfl rfl rfl (fun _ => rfl) (cw 4 (kN x)) (fun wx hS => St.rangeL hS 0 rfl 0 _ dZl) Tryz.underlying50 rfl (by kernel_rfl) ?_
 try simp only [clL]
 refine a0e rfl rfl rfl (fun _ => rfl) (cw 4 (kN (kc (rtV fP (kN cv))))) (fun wx hS => St.rangeL hS 2 rfl 0 _ dZl) Tryz.underlying50 rfl (by kernel_rfl) ?_
 try simp only [clL]
 refine a0n (v := ?_) rfl rfl (fun xq wx => ?_) ?_; rotate_left 1; · (go_simp; with_reducible rfl)
 try simp only [clL]
 refine a0c rfl rfl rfl Tryz.call110 (fun w hS hR => r0T _) (fun _ => rfl) ?_
 try simp only [clL]
 refine a0n rfl rfl (fun _ => b0z rfl _ (j0I _ _ _)) ?_
 try simp only [clL]
 refine a0y fun xq w5 st5 hR => ?_
 try dsimp only
 clear hR xq
 refine a0r rfl rfl ?_
 refine a0j st5 1 rfl rfl rfl rfl (by simp [a0a]) (by kernel_rfl) (a0Z _ _ _) ?_
 intro w6 st6
 try simp only [List.set_cons_zero, List.set_cons_succ] at st6
 clear st5
 try simp only [Act.put]
 refine a0l (v := ?_) rfl rfl (fun wx => ?_) ?_; rotate_left 1; · (go_simp; with_reducible rfl)
 try simp only [clL]
 refine a0k ?_
 refine NoPanic.normal ?_
 have hr := st6.at 1 rfl
 have hfr := st6.fr
 clear st6
 go_wp2_with fail
 exact bodyPost_ret (b0i rfl rfl hr Tryz.underlying54 rfl (by kernel_rfl) rfl) rfl ⟨rfl, hfr⟩
end
end Go.Proofs.YtemcankmggmgoaaGreatDoor
namespace Go.Mv
open Go.RowKit
section
variable {P : Program} {Q : Exit → Act → World → Prop} {Sx : World → Prop} {S : Nat → Prop} {w0 : World} {tl : Pl} {l : List Oper} {i : Nat} {s : List LS} {Γ : List Flt} {BL : List Blk} {R : World → Prop} {A : (Nat → Value) → Act} {o : Oper}
theorem s0f {parts : Array (Nat × Operand)} {ρ : Operand → Value} {M : List (Nat × Value)} (h : (parts.toList.map fun p => (p.1, ρ p.2)) = M) : (parts.map fun (i, x) => (i, ρ x)) = M.toArray := by
 apply Array.toList_inj.1
 rw [Array.toList_map, ← h]
theorem x0c {t e : TypeId} {k : Nat} {M : List (Nat × Value)} (hu : P.underlying t = some (.slice e)) {z : Value} {sz by_ : Nat} (hi0 : (P.info? e).map (fun i => (i.zero, i.size, i.bytes)) = some (some z, sz, by_)) (vs : List Value) (hp : M = (vs.zipIdx 0).map fun x => (x.2, x.1))
  (hv : ∀ v ∈ vs, v.cells.size = sz) (hk : vs.length = k) (L : List Value) (hL : (vs.flatMap fun v => v.cells.toList) = L) (hk0 : 0 < k * sz := by decide) (hk24 : k * sz ≤ 16777216 := by decide) :
  Mk P (do pure (.value (← Instr.buildSlice t k M.toArray))) (fun g => .slice (some ⟨g, 0, none⟩) k k) L e := by
 intro w
 obtain ⟨i, hi, hz0⟩ : ∃ i, P.info? e = some i ∧ (i.zero, i.size, i.bytes) = (some z, sz, by_) := by simpa using hi0
 simp only [Prod.mk.injEq] at hz0
 obtain ⟨hz1, hsz, hby⟩ := hz0
 have hs0 : 0 < sz := Nat.pos_of_mul_pos_left hk0
 have hf : Instr.fill (fun j => some (j * i.size, i.size)) ((Array.range (k * i.size)).map (z.cells[· % z.cells.size]!)) M = some L.toArray := by
  rw [hp, hsz, ← hL]
  exact Great.fill_whole hs0 vs _ hv (by simp [hk])
 refine ⟨w.heap.size, w.alloc (.cells L.toArray e), ?_, (Fr.refl _ w).alloc _, Nat.le_refl _, Has.new w L.toArray e⟩
 simp only [Sem.run_bind, run_buildSlice w t e k M.toArray L.toArray i z hu hi hz1 (by rw [hsz]; omega) (by rw [hsz]; omega) (by simpa using hf), Result.andThen_ok, Sem.run_pure]
theorem i0C {a : Act} {w : World} {K : Act → World → Prop} {v : Value} (hv : (execOp a.eval o).run P w = .ok (.value v) w) (h : K (a.put o.dst v) w) : o.wp P a w K Q := by
 unfold Oper.wp
 rw [hv]
 exact h
theorem s0g {a : Act} {w : World} {K : Act → World → Prop} {t e : TypeId} {k : Nat} {parts : Array (Nat × Operand)} (hst : St S w0 w BL) (hop : o.op = .buildSlice t k parts) (hu : P.underlying t = some (.slice e)) {z : Value} {sz by_ : Nat} (hi0 : (P.info? e).map (fun i => (i.zero, i.size, i.bytes)) = some (some z, sz, by_))
  (vs : List Value) (hp : (parts.toList.map fun p => (p.1, a.eval p.2)) = (vs.zipIdx 0).map fun x => (x.2, x.1)) (hv : ∀ v ∈ vs, v.cells.size = sz) (hk : vs.length = k) (L : List Value) (hL : (vs.flatMap fun v => v.cells.toList) = L)
  (h : ∀ g w', St S w0 w' (BL ++ [(g, L, e)]) → K (a.put o.dst (.slice (some ⟨g, 0, none⟩) k k)) w') (hk0 : 0 < k * sz := by decide) (hk24 : k * sz ≤ 16777216 := by decide) : o.wp P a w K Q :=
 x0Y (x0c hu hi0 vs rfl hv hk L hL hk0 hk24) (by unfold execOp; simp only [hop]; rw [s0f hp]) hst fun g w' h1 _ => h g w' h1
end
end Go.Mv
namespace Go.Proofs.YtemcankmggmgoaaGreatDoor
section
open Go.RowKit Go.Mv Mvp Mvq
theorem u0j : beN [121, 190, 102, 126, 249, 220, 187, 172, 85, 160, 98, 149, 206, 135, 11, 7, 2, 155, 252, 219, 45, 206, 40, 217, 89, 242, 129, 91, 22, 248, 23, 152] = gXn := by decide
theorem A0a (w : World) : Calls Tryz.prog 80 #[.string ⟨#[121, 190, 102, 126, 249, 220, 187, 172, 85, 160, 98, 149, 206, 135, 11, 7, 2, 155, 252, 219, 45, 206, 40, 217, 89, 242, 129, 91, 22, 248, 23, 152]⟩] w fun e w' => e = .returned (i4 (kN (kc gXn))) ∧ Fr Nob w w' := by
 have h := u0L ⟨#[121, 190, 102, 126, 249, 220, 187, 172, 85, 160, 98, 149, 206, 135, 11, 7, 2, 155, 252, 219, 45, 206, 40, 217, 89, 242, 129, 91, 22, 248, 23, 152]⟩ w (by decide)
 have e : beN [121, 190, 102, 126, 249, 220, 187, 172, 85, 160, 98, 149, 206, 135, 11, 7, 2, 155, 252, 219, 45, 206, 40, 217, 89, 242, 129, 91, 22, 248, 23, 152] = kN (kc gXn) := by rw [u0j]; decide
 rw [← e]
 exact h
theorem m0F : gYn % fP = gYn ∧ gYn % 2 = 0 ∧ gYn < fP := by decide
theorem z0N : c0E fP (kN (kc gXn * kc gXn * kc gXn + 7)) = true ∧ kc (rtV fP (kN (kc gXn * kc gXn * kc gXn + 7))) = kc gYn := by
 have hb : kc gYn * kc gYn = kc gXn * kc gXn * kc gXn + 7 := j0x
 rw [← hb]
 have e : kN (kc gYn * kc gYn) = gYn * gYn % fP := by rw [← a0E, p0k]
 have fp : FP fP := by rw [← r0h]; exact z0q
 have h4 : fP % 4 = 3 := by decide
 have ho := r0m fp h4 m0F.2.2
 rw [e]
 refine ⟨ho, ?_⟩
 have hlt : gYn * gYn % fP < fP := Nat.mod_lt _ (by decide)
 have hsq := m0n fp hlt ho
 have hev := l0a fp (x := gYn * gYn % fP)
 have h2 := y0o fp.prime m0F.2.2 (Nat.mod_lt (rtV fP (gYn * gYn % fP)) (by decide : 0 < fP)) (by rw [hsq])
 have hy := m0F.2.1
 rcases h2 with h2 | h2
 ·rw [← e0j, h2]
 ·exfalso
  have h3 : (fP - gYn) % fP = fP - gYn := by decide
  rw [h2, h3] at hev
  have h5 : (fP - gYn) % 2 = 1 := by decide
  omega
noncomputable def m0G : RT := z0M (kc gXn) (kc gYn) j0x
theorem u0k : m0G.pt = .A (kc gXn) (kc gYn) := x0b _ _ _
theorem A0b (w : World) : Calls Tryz.prog 85 #[i4 (kN (kc gXn))] w fun e w' => e = .returned (.tuple #[.agg m0G.L.toArray, .bool true]) ∧ Fr Nob w w' := by
 have h := z0B (kc gXn) _ _ _ rfl rfl rfl z0N.1 w
 rw [z0N.2] at h
 exact h
def u0l (b : Nat) : UInt8 := UInt8.ofNat (2 + b)
theorem v0k (b : Nat) (hb : b = 0 ∨ b = 1) : ([Value.int .u8 (2 + (b : Int))].flatMap fun v => v.cells.toList) = bs [u0l b] := by
 rcases hb with rfl | rfl <;> rfl
theorem u0m {T : TypeId} (_ : Tryz.prog.underlying T = some .string) (s t : ByteArray) (h : s.size + t.size ≤ 9223372036854775807) (w : World) : (binOp .add T (.string s) (.string t)).run Tryz.prog w = .ok (.string (s ++ t)) w := by
 have := h
 go_simp
theorem h0K {o : Oper} {a : Act} {p q : Operand} {T U : TypeId} {s t : ByteArray} {r : List UInt8} (ho : o.op = .binOp .add T p q U) (hp : a.eval p = .string s) (hq : a.eval q = .string t) (hT : Tryz.prog.underlying T = some .string) (h : s.size + t.size ≤ 1000000) (hr : s ++ t = mkS r) (w : World) :
  (execOp a.eval o).run Tryz.prog w = .ok (.value (.string (mkS r))) w := by
 have h2 := d0w (P := Tryz.prog) ho hp hq w (by go_simp) (u0m hT s t (by omega) w)
 rwa [hr] at h2
theorem j0K {P : Program} {o : Oper} {a : Act} {x : Operand} {src dst e : TypeId} (ho : o.op = .convert src dst x) (hs : P.underlying src = some (.slice e)) (he : P.underlying e = some (.int .u8)) (hd : P.underlying dst = some .string) {sa : Option Addr} {m c : Nat} {l : List UInt8}
  (hx : a.eval x = .slice sa m c) {w : World} (h : RdB w sa m l) : (execOp a.eval o).run P w = .ok (.value (.string (mkS l))) w := by
 unfold execOp
 simp only [ho, hx, Sem.run_bind, b0J h c hs he hd, Result.andThen_ok, Sem.run_pure]
theorem m0H (l m : List UInt8) : mkS l ++ mkS m = mkS (l ++ m) := by
 apply ByteArray.ext
 simp [mkS]
theorem A0c : (List.replicate 33 (Value.int .u8 0)) = bs (List.replicate 33 0) := by rfl
attribute [local irreducible] a0J lw mix cw b0t b0G b0q a0P a0u beN laid b0o b0H a0M a0V elN mdL b0R rtV c0E kN kc c0k d0U h0J noR d0k g0r RT.L gXn gYn u0l
theorem A0d (w : World) : Calls Tryz.prog 43 #[] w fun e w' => e = .returned (.agg m0G.L.toArray) ∧ Fr Nob w w' := by
 have st0 := St.start Nob w
 go_enter Tryz.func43, Tryz.ntmps43
 go_wp2_with (with_reducible refine wSk 0 ?_)
 refine a0b st0 rfl rfl (z := zAc) (by kernel_rfl) (cw 12 0) (by rw [a0f]; rfl) ?_
 intro g0 w1 st1
 clear st0
 go_wp2_with fail
 refine (A0a _).mono ?_
 rintro e' w2 ⟨rfl, hf2⟩
 have st2 := st1.keep hf2
 clear st1 hf2
 go_wp2_with (with_reducible refine wSk 1 ?_)
 refine a0b st2 rfl rfl (z := zAd) (by kernel_rfl) (cw 4 0) (by rw [a0f]; rfl) ?_
 intro g1 w3 st3
 clear st2
 go_wp2_with (with_reducible refine wSn ?_)
 refine a0d st3 1 rfl rfl rfl rfl rfl (by simp [a0a]) (by kernel_rfl) (a0i _ _) ?_
 intro w4 st4
 clear st3
 go_wp2_with (with_reducible refine wSk 6 ?_)
 refine a0h st4 1 rfl rfl rfl Tryz.underlying50 rfl (by kernel_rfl) ?_
 go_wp2_with fail
 refine (A0b _).mono ?_
 rintro e' w5 ⟨rfl, hf5⟩
 have st5 := st4.keep hf5
 clear st4 hf5
 go_wp2_with (with_reducible refine wSk 2 ?_)
 refine a0b st5 rfl rfl (z := zAc) (by kernel_rfl) (cw 12 0) (by rw [a0f]; rfl) ?_
 intro g2 w6 st6
 clear st5
 go_wp2_with (with_reducible refine wSn ?_)
 refine a0d st6 2 rfl rfl rfl rfl rfl (by first | (simp [a0a]; done) | (simp [RT.len]; done) | (simp [a0a, RT.len]; done) | simp [a0a, RT.len]) (by kernel_rfl) (RT.one _) ?_
 intro w7 st7
 clear st6
 go_wp2_with (with_reducible refine wSk 10 ?_)
 refine a0o st7 2 rfl rfl rfl Tryz.underlying54 rfl rfl (by kernel_rfl) ?_
 go_wp2_with (with_reducible refine wSn ?_)
 refine a0d st7 0 rfl rfl rfl rfl rfl (by first | (simp [a0a]; done) | (simp [RT.len]; done) | (simp [a0a, RT.len]; done) | simp [a0a, RT.len]) (by kernel_rfl) (RT.one _) ?_
 intro w8 st8
 clear st7
 have hr := st8.at 0 rfl
 have hfr := st8.fr
 clear st8
 go_wp2_with fail
 exact bodyPost_ret (a0F rfl rfl hr Tryz.underlying54 rfl (by kernel_rfl)) rfl ⟨rfl, hfr⟩
theorem p0n (x y z : K) (hb : decide (z = 0) = true) (w : World) : Calls Tryz.prog 20 #[rpV x y z] w fun e w' => e = .returned (.string (mkS (List.replicate 33 0))) ∧ Fr Nob w w' := by
 have HB := qH hb
 clear hb
 unfold rpV rpL
 have st0 := St.start Nob w
 go_enter Tryz.func20, Tryz.ntmps20
 go_wp2_with (with_reducible refine wSk 1 ?_)
 refine a0m st0 rfl rfl rfl (cw 4 (kN x) ++ (cw 4 (kN y) ++ cw 4 (kN z))) rfl ?_
 intro g1 w1 st1
 clear st0
 go_wp2_with (with_reducible refine wSk 7 ?_)
 refine a0o st1 0 rfl rfl rfl Tryz.underlying54 rfl rfl (by kernel_rfl) ?_
 go_wp2_with fail
 refine (d0c x y z true HB.out _).mono ?_
 rintro e' w2 ⟨rfl, hf2⟩
 have st2 := st1.keep hf2
 clear st1 hf2
 go_wp2_with (with_reducible refine wSk 10 ?_)
 refine c0p rfl rfl Tryz.underlying24 b0w rfl rfl rfl 33 33 (by simp) (by simp) (by omega) (by omega) (by unfold maxLen; omega) ?_
 intro w3 hg2 hf2 hz2
 clear hz2
 have st3 := st2.new hf2 hg2 (Nat.le_refl _)
 clear st2 hg2 hf2
 rw [A0c] at st3
 go_wp2_with (with_reducible refine wSk 11 ?_)
 refine d0p rfl rfl Tryz.underlying24 Tryz.underlying5 Tryz.underlying9 rfl (l := List.replicate 33 0) (Rd.whole (st3.at 1 rfl)) ?_
 have hfr := st3.fr
 clear st3
 go_wp2_with fail
 go_ret
 exact ⟨rfl, hfr⟩
theorem p0o (x y z : K) (hb : decide (z = 0) = false) (i X Y : K) (ei : c0k z = i) (eX : x * i = X) (eY : y * i = Y) (w : World) : Calls Tryz.prog 20 #[rpV x y z] w fun e w' => e = .returned (.string (mkS (u0l (kN Y % 2) :: b0o (kN X)))) ∧ Fr Nob w w' := by
 have HB := qH hb
 clear hb
 have Hi := qH ei
 have HX := qH eX
 have HY := qH eY
 clear ei eX eY
 unfold rpV rpL
 have st0 := St.start Nob w
 go_enter Tryz.func20, Tryz.ntmps20
 go_wp2_with (with_reducible refine wSk 1 ?_)
 refine a0m st0 rfl rfl rfl (cw 4 (kN x) ++ (cw 4 (kN y) ++ cw 4 (kN z))) rfl ?_
 intro g1 w1 st1
 clear st0
 go_wp2_with (with_reducible refine wSk 7 ?_)
 refine a0o st1 0 rfl rfl rfl Tryz.underlying54 rfl rfl (by kernel_rfl) ?_
 go_wp2_with fail
 refine (d0c x y z false HB.out _).mono ?_
 rintro e' w2 ⟨rfl, hf2⟩
 have st2 := st1.keep hf2
 clear st1 hf2
 go_wp2_with fail
 refine wp_region_noPanic ?_
 refine a0g st2 5 [.o 4, .w 1, .t 2, .c 0, .c 3, .j 4] (.m 5 .nil) (by kernel_rfl) (by kernel_rfl) (fun _ _ _ _ _ h => h) ?_
 clear st2
 refine b0e rfl rfl rfl e0I (cw 4 0) rfl ?_
 try simp only [clL]
 refine a0n (v := ?_) rfl rfl (fun xq wx => ?_) ?_; rotate_left 1; · (go_simp; with_reducible rfl)
 try simp only [clL]
 refine a0e rfl rfl rfl (fun _ => rfl) (cw 4 (kN z)) (fun wx hS => St.rangeL hS 0 rfl 8 _ (f0g _ _ _)) Tryz.underlying50 rfl (by kernel_rfl) ?_
 try simp only [clL]
 refine a0c rfl rfl rfl Tryz.call45 (fun w hS hR => a0K _) (fun _ => rfl) ?_
 try simp only [clL]
 refine a0c rfl rfl rfl Tryz.call46 (fun w hS hR => z0Z z i Hi.out _) (fun _ => rfl) ?_
 try simp only [clL]
 refine b0f List.mem_cons_self fun g4 => ?_
 simp only [upd, reduceIte]
 refine a0y fun xq w3 st3 hR => ?_
 try dsimp only
 clear hR xq
 refine a0r rfl rfl ?_
 refine a0j st3 1 rfl rfl rfl rfl (by simp [a0a]) (by kernel_rfl) (a0i _ _) ?_
 intro w4 st4
 repeat (first | simp only [List.cons_append] at st4 | simp only [List.nil_append] at st4 | simp only [List.set_cons_succ] at st4 | simp only [List.set_cons_zero] at st4)
 clear st3
 try simp only [Act.put]
 refine a0k ?_
 refine NoPanic.normal ?_
 go_wp2_with fail
 refine wp_region_noPanic ?_
 refine a0g st4 6 [.o 5, .w 1, .t 2, .t 3, .c 0, .c 4, .j 5] (.m 6 .nil) (by kernel_rfl) (by kernel_rfl) (fun _ _ _ _ _ h => h) ?_
 clear st4
 refine b0e rfl rfl rfl e0I (cw 4 0) rfl ?_
 try simp only [clL]
 refine a0n (v := ?_) rfl rfl (fun xq wx => ?_) ?_; rotate_left 1; · (go_simp; with_reducible rfl)
 try simp only [clL]
 refine a0e rfl rfl rfl (fun _ => rfl) (cw 4 (kN x)) (fun wx hS => St.rangeL hS 0 rfl 0 _ (j0M _ _ _)) Tryz.underlying50 rfl (by kernel_rfl) ?_
 try simp only [clL]
 refine a0e rfl rfl rfl (fun _ => rfl) (cw 4 (kN i)) (fun wx hS => St.rangeL hS 1 rfl 0 _ dZl) Tryz.underlying50 rfl (by kernel_rfl) ?_
 try simp only [clL]
 refine a0c rfl rfl rfl Tryz.call45 (fun w hS hR => a0K _) (fun _ => rfl) ?_
 try simp only [clL]
 refine a0c rfl rfl rfl Tryz.call47 (fun w hS hR => d0T x i X HX.out _) (fun _ => rfl) ?_
 try simp only [clL]
 refine b0f List.mem_cons_self fun g5 => ?_
 simp only [upd, reduceIte]
 refine a0y fun xq w5 st5 hR => ?_
 try dsimp only
 clear hR xq
 refine a0r rfl rfl ?_
 refine a0j st5 2 rfl rfl rfl rfl (by simp [a0a]) (by kernel_rfl) (a0i _ _) ?_
 intro w6 st6
 repeat (first | simp only [List.cons_append] at st6 | simp only [List.nil_append] at st6 | simp only [List.set_cons_succ] at st6 | simp only [List.set_cons_zero] at st6)
 clear st5
 try simp only [Act.put]
 refine a0k ?_
 refine NoPanic.normal ?_
 go_wp2_with fail
 refine wp_region_noPanic ?_
 refine a0g st6 6 [.o 5, .w 1, .t 2, .t 3, .c 0, .c 4, .j 5] (.m 6 .nil) (by kernel_rfl) (by kernel_rfl) (fun _ _ _ _ _ h => h) ?_
 clear st6
 refine b0e rfl rfl rfl e0I (cw 4 0) rfl ?_
 try simp only [clL]
 refine a0n (v := ?_) rfl rfl (fun xq wx => ?_) ?_; rotate_left 1; · (go_simp; with_reducible rfl)
 try simp only [clL]
 refine a0e rfl rfl rfl (fun _ => rfl) (cw 4 (kN y)) (fun wx hS => St.rangeL hS 0 rfl 4 _ (l0A _ _ _)) Tryz.underlying50 rfl (by kernel_rfl) ?_
 try simp only [clL]
 refine a0e rfl rfl rfl (fun _ => rfl) (cw 4 (kN i)) (fun wx hS => St.rangeL hS 1 rfl 0 _ dZl) Tryz.underlying50 rfl (by kernel_rfl) ?_
 try simp only [clL]
 refine a0c rfl rfl rfl Tryz.call45 (fun w hS hR => a0K _) (fun _ => rfl) ?_
 try simp only [clL]
 refine a0c rfl rfl rfl Tryz.call47 (fun w hS hR => d0T y i Y HY.out _) (fun _ => rfl) ?_
 try simp only [clL]
 refine b0f List.mem_cons_self fun g6 => ?_
 simp only [upd, reduceIte]
 refine a0y fun xq w7 st7 hR => ?_
 try dsimp only
 clear hR xq
 refine a0r rfl rfl ?_
 refine a0j st7 3 rfl rfl rfl rfl (by simp [a0a]) (by kernel_rfl) (a0i _ _) ?_
 intro w8 st8
 repeat (first | simp only [List.cons_append] at st8 | simp only [List.nil_append] at st8 | simp only [List.set_cons_succ] at st8 | simp only [List.set_cons_zero] at st8)
 clear st7
 try simp only [Act.put]
 refine a0k ?_
 refine NoPanic.normal ?_
 have ha := f0x (kN Y)
 have hb2 : kN Y % 2 = 0 ∨ kN Y % 2 = 1 := by omega
 generalize hbv : kN Y % 2 = b at *
 have HBV := qH hbv
 clear hbv
 have hw8 : IntKind.u8.wrap (b : Int) = (b : Int) := by rcases hb2 with rfl | rfl <;> decide
 have hw9 : IntKind.u8.wrap (2 + (b : Int)) = 2 + (b : Int) := by rcases hb2 with rfl | rfl <;> decide
 have HB2 := qH hb2
 clear hb2
 go_wp2_with fail
 refine wp_region_noPanic ?_
 refine a0p (fun wx => St Nob w wx [(g1, cw 4 (kN x) ++ (cw 4 (kN y) ++ cw 4 (kN z)), 54), (g4, cw 4 (kN i), 50), (g5, cw 4 (kN X), 50), (g6, cw 4 (kN Y), 50)]) 10 (.w 0 (.t 1 (.w 2 (.w 3 (.w 4 (.t 7 (.b 5 8 (.b 6 8 (.r 8 (.r 9 (.m 10 .nil))) (.r 6 (.r 9 (.m 10 .nil)))) (.r 5 (.r 6 (.r 9 (.m 10 .nil))))))))))) (by kernel_rfl) (by kernel_rfl) st8.drew (fun _ _ _ _ _ h => h) ?_
 have hd8 := st8.drew
 clear st8
 refine a0l (v := ?_) rfl rfl (fun wx => ?_) ?_; rotate_left 1; · (go_simp; with_reducible rfl)
 try simp only [clL]
 refine d0i (v := ?_) rfl rfl (fun wx hS => ?_) ?_
 rotate_left 1
 ·(have hc := (St.at hS 3 rfl).cell (a0D 4 (kN Y) 0 (by decide)); clear hS; go_simp; with_reducible rfl)
 try simp only [clL]
 iterate 3 (refine a0l (v := ?_) rfl rfl (fun wx => ?_) ?_; rotate_left 1; · (go_simp; with_reducible rfl); try simp only [clL])
 refine a0s rfl rfl rfl rfl (cw 4 (kN X)) (fun wx hS => St.rangeL hS 2 rfl 0 _ dZl) Tryz.underlying50 rfl (by kernel_rfl) ?_
 try simp only [clL]
 refine d0v (C := fun g31 wz => St Nob w wz [(g1, cw 4 (kN x) ++ (cw 4 (kN y) ++ cw 4 (kN z)), 54), (g4, cw 4 (kN i), 50), (g5, cw 4 (kN X), 50), (g6, cw 4 (kN Y), 50), (g31, bs [u0l b], 5)]) (F := ?_) (fun key => ?_) ?_
 rotate_left 1
 ·skip
  refine c0V rfl rfl rfl rfl ?_ ?_
  ·skip
   refine s0g hd8 rfl Tryz.underlying24 b0w [.int .u8 (2 + (b : Int))] rfl (by simp [Value.cells]) rfl _ (v0k b HB2.out) ?_
   intro g31 w9 st9
   refine ⟨St.less st9 (by simp), ?_⟩
   try simp only [clL]
   refine c0V rfl rfl rfl rfl ?_ ?_
   ·skip
    refine i0C (j0K rfl Tryz.underlying24 Tryz.underlying5 Tryz.underlying9 rfl (l := [u0l b]) (Rd.whole (st9.at 4 rfl))) ?_
    have st10 := st9
    refine ⟨St.less st10 (by simp), ?_⟩
    try simp only [clL]
    refine a0A rfl rfl ?_
    go_simp
    refine (d0t (kN X) _).mono ?_
    rintro e' w11 ⟨rfl, hf11⟩
    have st11 := st10.keep hf11
    clear hf11
    refine ⟨St.less st11 (by simp), ?_⟩
    try simp only [clL]
    refine a0A rfl rfl ?_
    refine i0C (h0K rfl rfl rfl Tryz.underlying9 (by rw [a0w, a0w, a0T]; simp) (m0H _ _) _) ?_
    have st12 := st11
    refine ⟨St.less st12 (by simp), ?_⟩
    try simp only [clL]
    refine a0r rfl rfl ?_
    go_simp
    try simp only [clL]
    refine a0k ?_
    exact key g31 _ st12
   ·skip
    go_simp
    refine (d0t (kN X) _).mono ?_
    rintro e' w13 ⟨rfl, hf13⟩
    have st13 := st9.keep hf13
    clear hf13
    refine ⟨St.less st13 (by simp), ?_⟩
    try simp only [clL]
    refine a0A rfl rfl ?_
    refine i0C (j0K rfl Tryz.underlying24 Tryz.underlying5 Tryz.underlying9 rfl (l := [u0l b]) (Rd.whole (st13.at 4 rfl))) ?_
    have st14 := st13
    refine ⟨St.less st14 (by simp), ?_⟩
    try simp only [clL]
    refine a0A rfl rfl ?_
    refine i0C (h0K rfl rfl rfl Tryz.underlying9 (by rw [a0w, a0w, a0T]; simp) (m0H _ _) _) ?_
    have st15 := st14
    refine ⟨St.less st15 (by simp), ?_⟩
    try simp only [clL]
    refine a0r rfl rfl ?_
    go_simp
    try simp only [clL]
    refine a0k ?_
    exact key g31 _ st15
  ·skip
   go_simp
   refine (d0t (kN X) _).mono ?_
   rintro e' w16 ⟨rfl, hf16⟩
   have st16 := hd8.keep hf16
   clear hf16
   refine ⟨st16, ?_⟩
   try simp only [clL]
   refine a0A rfl rfl ?_
   refine s0g st16 rfl Tryz.underlying24 b0w [.int .u8 (2 + (b : Int))] rfl (by simp [Value.cells]) rfl _ (v0k b HB2.out) ?_
   intro g31 w17 st17
   refine ⟨St.less st17 (by simp), ?_⟩
   try simp only [clL]
   refine a0A rfl rfl ?_
   refine i0C (j0K rfl Tryz.underlying24 Tryz.underlying5 Tryz.underlying9 rfl (l := [u0l b]) (Rd.whole (st17.at 4 rfl))) ?_
   have st18 := st17
   refine ⟨St.less st18 (by simp), ?_⟩
   try simp only [clL]
   refine a0A rfl rfl ?_
   refine i0C (h0K rfl rfl rfl Tryz.underlying9 (by rw [a0w, a0w, a0T]; simp) (m0H _ _) _) ?_
   have st19 := st18
   refine ⟨St.less st19 (by simp), ?_⟩
   try simp only [clL]
   refine a0r rfl rfl ?_
   go_simp
   try simp only [clL]
   refine a0k ?_
   exact key g31 _ st19
 intro g31 w20 st20
 have st20 : St Nob w w20 [(g1, cw 4 (kN x) ++ (cw 4 (kN y) ++ cw 4 (kN z)), 54), (g4, cw 4 (kN i), 50), (g5, cw 4 (kN X), 50), (g6, cw 4 (kN Y), 50), (g31, bs [u0l b], 5)] := st20
 clear hd8
 refine NoPanic.normal ?_
 have hfr := st20.fr
 clear st20
 go_wp2_with fail
 go_ret
 exact ⟨by rw [HBV.out]; rfl, hfr⟩
end
section
open Go.RowKit Go.Mv Mvp Mvq
theorem y0M (x y : K) : d0U (.A x y) = u0l (kN y % 2) :: b0o (kN x) := rfl
theorem p0p (s : RT) (w : World) : Calls Tryz.prog 20 #[.agg s.L.toArray] w fun e w' => e = .returned (.string (mkS (d0U s.pt))) ∧ Fr Nob w w' := by
 cases h : s.isO
 ·have hz : s.z ≠ 0 := by simpa [RT.isO] using h
  have h2 : s.pt = .A (s.x * c0k s.z) (s.y * c0k s.z) := t0C hz
  rw [h2, y0M]
  exact p0o s.x s.y s.z h _ _ _ rfl rfl rfl w
 ·rw [RT.isO_t h]
  exact p0n s.x s.y s.z h w
end
section
open Go.RowKit Go.Mv Mvp Mvq
attribute [local irreducible] a0J lw mix cw b0t b0G b0q a0P a0u beN laid b0o b0H a0M a0V elN mdL b0R rtV c0E kN kc c0k d0U h0J noR d0k g0r RT.L
theorem u0n (n : Nat) (w : World) : Calls Tryz.prog 19 #[i4 n] w fun e w' => e = .returned (.agg (d0k n m0G).L.toArray) ∧ Fr Nob w w' := by
 have st0 := St.start Nob w
 go_enter Tryz.func19, Tryz.ntmps19
 go_wp2_with (with_reducible refine wSk 1 ?_)
 refine a0m st0 rfl rfl rfl (cw 4 n) rfl ?_
 intro g1 w1 st1
 clear st0
 go_wp2_with (with_reducible refine wSk 2 ?_)
 refine a0b st1 rfl rfl (z := zAc) (by kernel_rfl) (cw 12 0) (by rw [a0f]; rfl) ?_
 intro g2 w2 st2
 clear st1
 go_wp2_with fail
 refine wp_region_noPanic ?_
 refine a0g st2 3 [.t 0, .c 1, .c 2] (.m 3 .nil) (by kernel_rfl) (by kernel_rfl) (fun _ _ _ _ _ h => h) ?_
 clear st2
 refine a0e rfl rfl rfl (fun _ => rfl) (cw 4 n) (fun wx hS => St.rangeL hS 0 rfl 0 _ dZl) Tryz.underlying50 rfl (by first | (rw [a0a]; kernel_rfl) | (rw [RT.len]; kernel_rfl) | (rw [j0J]; kernel_rfl) | (simp only [List.length_append, a0a]; kernel_rfl) | (simp only [List.length_append, a0a, RT.len, j0J]; kernel_rfl)) ?_
 try simp only [clL]
 refine a0c rfl rfl rfl Tryz.call43 (fun w hS hR => A0d _) (fun _ => rfl) ?_
 try simp only [clL]
 refine a0c rfl rfl rfl Tryz.call42 (fun w hS hR => u0i n m0G _) (fun _ => rfl) ?_
 try simp only [clL]
 refine a0y fun xq w3 st3 hR => ?_
 try dsimp only
 clear hR xq
 refine a0r rfl rfl ?_
 refine a0j st3 1 rfl rfl rfl rfl (by first | (simp only [a0a]; done) | (simp only [a0a, RT.len]; done)) (by first | (rw [a0a]; kernel_rfl) | (simp only [RT.len]; kernel_rfl)) (RT.one _) ?_
 intro w4 st4
 repeat (first | simp only [List.cons_append] at st4 | simp only [List.nil_append] at st4 | simp only [List.set_cons_succ] at st4 | simp only [List.set_cons_zero] at st4)
 clear st3
 try simp only [Act.put]
 refine a0k ?_
 refine NoPanic.normal ?_
 have hr := st4.at 1 rfl
 have hfr := st4.fr
 clear st4
 go_wp2_with fail
 exact bodyPost_ret (a0F rfl rfl hr Tryz.underlying54 rfl (by first | (rw [a0a]; kernel_rfl) | (simp only [RT.len]; kernel_rfl))) rfl ⟨rfl, hfr⟩
end
end Go.Proofs.YtemcankmggmgoaaGreatDoor
namespace Mvp
end Mvp
namespace Go.Proofs.YtemcankmggmgoaaGreatDoor
section
open Go.RowKit Go.Mv Mvp
attribute [local irreducible] a0J lw mix cw b0t b0G b0q a0P a0u beN laid b0o b0H a0M a0V elN mdL b0R
end
section
open Go.RowKit Go.Mv Mvp Mvq
attribute [local irreducible] a0J lw mix cw b0t b0G b0q a0P a0u beN laid b0o b0H a0M a0V elN mdL b0R rtV c0E kN kc c0k d0U h0J noR d0k g0r RT.L gXn gYn
end
section
open Go.RowKit Go.Mv Mvp Mvq
attribute [local irreducible] rtV c0E rpL f0s beN b0o
end
section
open Go.RowKit Go.Mv Mvp Mvq
theorem t_ok {lk la : List UInt8} (hk : b0R mQ lk = true) (ha : f0p la = true) : tC lk la = 0 ∧ tS lk la = d0U (b0D (beN lk) (j0v la)) := by unfold tC tS; rw [hk, ha]; exact ⟨rfl, rfl⟩
end
section
open Go.RowKit Go.Mv Mvp Mvq
theorem s0h (s : ByteArray) (w : World) : Calls Tryz.prog 18 #[.string s] w fun e w' => ∃ N : Nat, e = .returned (.tuple #[i4 N, .bool (b0R mQ s.data.toList)]) ∧ (b0R mQ s.data.toList = true → N = beN s.data.toList) ∧ Fr Nob w w' := by
 cases h : b0R mQ s.data.toList
 ·exact (t0m mQ .one s w h).mono fun e w' ⟨N, k1, k2⟩ => ⟨N, k1, fun h => (by cases h), k2⟩
 ·exact (t0l mQ .one s w h).mono fun e w' k => ⟨_, k.1, fun _ => rfl, k.2⟩
attribute [local irreducible] a0J lw mix cw b0t b0G b0q a0P a0u beN laid b0o b0H a0M a0V elN mdL b0R rtV c0E kN kc c0k d0U h0J noR d0k g0r RT.L gXn gYn rpL f0p j0v
end
section
open Go.RowKit Go.Mv Mvp Mvq Mvk
theorem u0o {a b : Nat} (h : 2 ^ a = 2 ^ b) : a = b := by
 rcases Nat.lt_trichotomy a b with k | k | k
 ·have := Nat.pow_lt_pow_right (a := 2) (by decide) k; omega
 ·exact k
 ·have := Nat.pow_lt_pow_right (a := 2) (by decide) k; omega
theorem y0N : ∀ (n x : Nat), x < 2 ^ n → pcn n x = 0 → x = 0
 | 0, x, h, _ => by simpa using h
 | n + 1, x, h, h0 => by
  have e : pcn (n + 1) x = x % 2 + pcn n (x / 2) := rfl
  rw [e] at h0
  have := y0N n (x / 2) (by rw [Nat.pow_succ] at h; omega) (by omega)
  omega
theorem y0O : ∀ (n x : Nat), x < 2 ^ n → pcn n x = 1 → ∃ k, k < n ∧ x = 2 ^ k
 | 0, x, _, h1 => by cases h1
 | n + 1, x, h, h1 => by
  have e : pcn (n + 1) x = x % 2 + pcn n (x / 2) := rfl
  rw [e] at h1
  have hx : x / 2 < 2 ^ n := by rw [Nat.pow_succ] at h; omega
  rcases Nat.mod_two_eq_zero_or_one x with k | k
  ·obtain ⟨m, hm, e2⟩ := y0O n (x / 2) hx (by omega)
   exact ⟨m + 1, by omega, by rw [Nat.pow_succ]; omega⟩
  ·have := y0N n (x / 2) hx (by omega)
   exact ⟨0, by omega, by simp; omega⟩
def plF (x : Nat) : Option Nat := (List.range 20).find? fun k => x == 2 ^ k
theorem j0L {x k : Nat} (h : plF x = some k) : k ≤ 19 ∧ x = 2 ^ k := by
 unfold plF at h
 have h1 := List.mem_of_find?_eq_some h
 have h2 := List.find?_some h
 exact ⟨by have := List.mem_range.1 h1; omega, by simpa using h2⟩
theorem g0s {x : Nat} (h : plF x = none) : ∀ k, k ≤ 19 → x ≠ 2 ^ k := by
 unfold plF at h
 intro k hk e
 have := List.find?_eq_none.1 h k (List.mem_range.2 (by omega))
 exact this (by simpa using e)
def kyE (l : List UInt8) (x : Nat) : Nat := if l.length ≠ 32 then 2 else match plF x with | some _ => 0 | none => 7
noncomputable def kyR (l : List UInt8) (n x : Nat) : List UInt8 := if l.length ≠ 32 then [] else match plF x with | some k => kyS l n k | none => []
noncomputable def ksN (l : List UInt8) (n : Nat) : List UInt8 := if l.length ≠ 32 then [] else kyN l n
noncomputable def ksP (l : List UInt8) (n : Nat) : List (List UInt8) := if l.length ≠ 32 then [] else kyL l n 20
def ksE (l : List UInt8) : Nat := if l.length ≠ 32 then 2 else 0
theorem v0l (l : List UInt8) (n : Nat) : ∀ x ∈ ksP l n, x.length ≤ 1000000 := by
 intro x hx
 unfold ksP at hx
 split at hx
 ·cases hx
 ·rw [r0O l n 20 x hx]; decide
theorem s0i (l : List UInt8) (n : Nat) : (ksP l n).length ≤ 20 := by
 unfold ksP
 split
 ·simp
 ·rw [d0b]; decide
theorem s0j (l : List UInt8) (n : Nat) : (ksN l n).length ≤ 1000000 := by
 unfold ksN
 split
 ·simp
 ·rw [r0P]; decide
theorem v0m (l : List UInt8) (n k : Nat) (h : l.length = 32) : srS mQ l [109, 105, 110, 116] [n, k] = kyS l n k ∧ drE l [n, k] = 0 := by
 have h2 := w0S mQ l [109, 105, 110, 116] [n, k] h (by simp)
 exact ⟨by rw [h2.2.2, y0y], h2.1⟩
theorem z0C (l : List UInt8) (n k : Nat) : d0U (d0k (beN (kyS l n k)) m0G).pt = kyP l n k := by
 rw [s0e _ (Nat.lt_trans (n0P (j0G l n k)) x0w.lt), u0k]
 rfl
attribute [local irreducible] a0J lw mix cw b0t b0G b0q a0P a0u beN laid b0o b0H a0M a0V elN mdL b0R rtV c0E d0U f0p j0v b0D b0l b0B toB a0v a0I b0m c0h a0C c0i b0k a0G c0S e0i scN kyS kyP kyL kyN tS tC kyR ksN ksP h0J noR d0k RT.L srS plF
theorem i0D (x : Nat) (w : World) (hx : x < 18446744073709551616) (hno : ∀ k, k ≤ 19 → x ≠ 2 ^ k) :
  Calls Tryz.prog 6 #[.int .u64 (x : Int)] w fun e w' => e = .returned (.tuple #[.int .i64 0, .int .i64 7]) ∧ w' = w := by
 have ho := n0y x w hx
 by_cases h1 : pcn 64 x = 1
 ·rw [h1] at ho
  have hpI : (524288 : Int) < (x : Int) := by
   obtain ⟨k, hk, e⟩ := y0O 64 x (by simpa using hx) h1
   have h20 : 20 ≤ k := by
    rcases Nat.lt_or_ge k 20 with h | h
    ·exact absurd e (hno k (by omega))
    ·exact h
   have : 2 ^ 20 ≤ 2 ^ k := Nat.pow_le_pow_right (by decide) h20
   have e3 : (2 : Nat) ^ 20 = 1048576 := by decide
   omega
  have HO := qH ho
  clear ho h1 hno
  go_enter Tryz.func6, Tryz.ntmps6
  go_wp2_with fail
  refine HO.out.mono ?_
  rintro e w' ⟨rfl, rfl⟩
  go_wp2_with fail
  go_ret2
  exact ⟨rfl, rfl⟩
 ·generalize pcn 64 x = c at *
  have hcI : ((c : Int) != 1) = true := by simp; omega
  have HO := qH ho
  clear ho h1 hno
  go_enter Tryz.func6, Tryz.ntmps6
  go_wp2_with fail
  refine HO.out.mono ?_
  rintro e w' ⟨rfl, rfl⟩
  go_wp2_with fail
  go_ret2
  exact ⟨rfl, rfl⟩
theorem x0d (a : Option Addr) (m c n x : Nat) (w : World) (hm : m ≠ 32) :
  Calls Tryz.prog 4 #[.slice a m c, .int .u32 (n : Int), .int .u64 (x : Int)] w fun e w' => e = .returned (.tuple #[.slice none 0 0, .int .i64 2]) ∧ Fr Nob w w' := by
 have hJ : ((m : Int) != 32) = true := by simp; omega
 have HF := qH (Fr.refl Nob w)
 clear hm
 go_enter Tryz.func4, Tryz.ntmps4
 go_wp2_with fail
 go_ret2
 exact ⟨rfl, HF.out⟩
theorem u0p (a : Option Addr) (c n x : Nat) (w : World) (hx : x < 18446744073709551616) (hno : ∀ k, k ≤ 19 → x ≠ 2 ^ k) :
  Calls Tryz.prog 4 #[.slice a 32 c, .int .u32 (n : Int), .int .u64 (x : Int)] w fun e w' => e = .returned (.tuple #[.slice none 0 0, .int .i64 7]) ∧ Fr Nob w w' := by
 have HPL := qH (i0D x w hx hno)
 have HF := qH (Fr.refl Nob w)
 clear hno hx
 go_enter Tryz.func4, Tryz.ntmps4
 go_wp2_with fail
 refine HPL.out.mono ?_
 rintro e w' ⟨rfl, rfl⟩
 go_wp2_with fail
 go_ret2
 exact ⟨rfl, HF.out⟩
theorem z0D (a : Option Addr) (m c : Nat) (l : List UInt8) (n x : Nat) (w : World) (hp : PartIs w (.slice a m c) l) (hn : n ≤ 4294967295) (hx : x ≤ 18446744073709551615) (hT : TabAt 0 Lib.deBruijn64tab w) :
  Calls Tryz.prog 4 #[.slice a m c, .int .u32 (n : Int), .int .u64 (x : Int)] w fun e w' => ∃ v, e = .returned (.tuple #[v, .int .i64 (kyE l x : Nat)]) ∧ OwnB1 w w' v (kyR l n x) ∧ Fr Nob w w' := by
 have hl : l.length = m := by
  obtain ⟨a', n', c', e, -, -, hr, -⟩ := hp
  cases e
  exact hr.len
 unfold kyE kyR
 by_cases h32 : l.length = 32
 ·rw [if_neg (by simpa using h32), if_neg (by simpa using h32)]
  obtain rfl : m = 32 := by omega
  cases h : plF x with
  | none => exact (u0p a c n x w (by omega) (g0s h)).mono fun e w' k => ⟨_, k.1, OwnB1.nil _ _, k.2⟩
  | some k =>
   obtain ⟨hk, rfl⟩ := j0L h
   exact v0h a c l n k w hp hn hk hT
 ·rw [if_pos h32, if_pos h32]
  exact (x0d a m c n x w (by omega)).mono fun e w' k => ⟨_, k.1, OwnB1.nil _ _, k.2⟩
theorem x0e (a : Option Addr) (m c n : Nat) (w : World) (hm : m ≠ 32) :
  Calls Tryz.prog 8 #[.slice a m c, .int .u32 (n : Int)] w fun e w' => e = .returned (.tuple #[.agg #[.slice none 0 0, .slice none 0 0], .int .i64 2]) ∧ Fr Nob w w' := by
 have hJ : ((m : Int) != 32) = true := by simp; omega
 clear hm
 have st0 := St.start Nob w
 go_enter Tryz.func8, Tryz.ntmps8
 go_wp2_with (with_reducible refine wSk 4 ?_)
 refine a0b st0 rfl rfl x0o [.slice none 0 0, .slice none 0 0] rfl ?_
 intro g4 w1 st1
 clear st0
 go_wp2_with (with_reducible refine wSk 6 ?_)
 refine a0b st1 rfl rfl x0o [.slice none 0 0, .slice none 0 0] rfl ?_
 intro g6 w2 st2
 simp only [List.cons_append, List.nil_append] at st2
 clear st1
 go_wp2_with (with_reducible refine wSk 15 ?_)
 refine a0o st2 1 rfl rfl rfl Tryz.underlying35 rfl rfl l0m ?_
 go_wp2_with (with_reducible refine wSn ?_)
 refine a0d st2 0 rfl rfl rfl rfl rfl (cs := [.slice none 0 0, .slice none 0 0]) rfl l0m (by intro v hv; simp only [List.mem_cons, List.not_mem_nil, or_false] at hv; rcases hv with rfl | rfl <;> rfl) ?_
 intro w3 st3
 have hr := st3.at 0 rfl
 have hfr := st3.fr
 clear st2 st3
 go_wp2_with fail
 exact bodyPost_ret (b0i rfl rfl hr Tryz.underlying35 rfl l0m rfl) rfl ⟨rfl, hfr⟩
theorem y0P (a : Option Addr) (m c : Nat) (l : List UInt8) (n : Nat) (w : World) (hp : PartIs w (.slice a m c) l) (hn : n ≤ 4294967295) (hT : TabAt 0 Lib.deBruijn64tab w) :
  Calls Tryz.prog 8 #[.slice a m c, .int .u32 (n : Int)] w fun e w' => ∃ nm q vs, e = .returned (.tuple #[.agg #[nm, q], .int .i64 (ksE l : Nat)]) ∧ Go.Mv.Own w' w.heap.size 24 1 q (ksP l n).length vs ∧ POwn w' w.heap.size (nm :: vs) (ksN l n :: ksP l n) ∧ Sep (nm :: vs) ∧ Fr Nob w w' := by
 have hl : l.length = m := by
  obtain ⟨a', n', c', e, -, -, hr, -⟩ := hp
  cases e
  exact hr.len
 unfold ksE ksN ksP
 by_cases h32 : l.length = 32
 ·rw [if_neg (by simpa using h32), if_neg (by simpa using h32), if_neg (by simpa using h32)]
  obtain rfl : m = 32 := by omega
  exact (y0C a c l n w hp hn hT).mono fun e w' ⟨nm, q, vs, k1, k2, k3⟩ => ⟨nm, q, vs, k1, by rw [d0b]; exact k2, k3⟩
 ·rw [if_pos h32, if_pos h32, if_pos h32]
  exact (x0e a m c n w (by omega)).mono fun e w' k => ⟨_, _, [], k.1, Go.Mv.Own.nil _ _ _ _, ⟨Go.Mv.Own.nil _ _ _ _, trivial⟩, List.pairwise_singleton _ _, k.2⟩
theorem g0t (x : Nat) (r : Int) (w : World) (hr : (∃ k : Nat, k ≤ 19 ∧ x = 2 ^ k ∧ r = (k : Int)) ∨ ((∀ k : Nat, k ≤ 19 → x ≠ 2 ^ k) ∧ r = -1)) :
  Calls Tryz.prog 7 #[.int .u64 (x : Int)] w fun e w' => e = .returned (.int .i64 r) ∧ Fr Nob w w' := by
 have HR := qH hr
 have HF0 := qH (Fr.refl Nob w)
 clear hr
 go_enter Tryz.func7, Tryz.ntmps7
 go_wp2_with fail
 go_loopw [3] (fun i wr => ∃ j : Nat, j ≤ 20 ∧ i = .int .i64 (j : Int) ∧ (∀ m : Nat, m < j → x ≠ 2 ^ m) ∧ Fr Nob w wr) (fun i _ => 20 - (intOf i).toNat)
 case atStart => exact ⟨0, by omega, rfl, fun m h => absurd h (Nat.not_lt_zero _), HF0.out⟩
 case round =>
  clear HF0
  obtain ⟨j, hj, rfl, hno, hfr⟩ := hrel
  have HNO := qH hno
  have HF := qH hfr
  clear hno hfr
  by_cases hlt : j < 20
  ·have hltI : (j : Int) < 20 := by omega
   have HJ := qH hlt
   obtain ⟨y, hy⟩ : ∃ y : Nat, 2 ^ j = y := ⟨_, rfl⟩
   have hyI : (2 : Int) ^ j = (y : Int) := by rw [← hy]; simp
   have hy1 : (y : Int) < 18446744073709551616 := by
    have : 2 ^ j ≤ 2 ^ 19 := Nat.pow_le_pow_right (by decide) (by omega)
    have e3 : (2 : Nat) ^ 19 = 524288 := by decide
    omega
   have HY := qH hy
   by_cases he : x = y
   ·have HE := qH he
    have hE : ((x : Int) == (y : Int)) = true := by simp [he]
    clear hj hlt hy he
    go_wp2_with fail
    go_ret
    refine ⟨?_, HF.out⟩
    rcases HR.out with ⟨k, hk, e1, e2⟩ | ⟨h, _⟩
    ·have e3 : j = k := u0o (by rw [HY.out, ← HE.out]; exact e1)
     rw [e2, e3]
     rfl
    ·exact absurd (HE.out.trans HY.out.symm) (h j (by have := HJ.out; omega))
   ·have HE := qH he
    have hE : ((x : Int) == (y : Int)) = false := by simp; omega
    clear hj hlt hy he
    go_wp2_with fail
    go_roundw
    case rel => exact ⟨j + 1, by have := HJ.out; omega, by go_num, fun m hm => (Nat.lt_succ_iff_lt_or_eq.1 hm).elim (HNO.out m) (fun e => by rw [e, HY.out]; exact HE.out), HF.out⟩
    case measure => simp [intOf]; have := HJ.out; omega
  ·have hge : ¬ ((j : Int) < 20) := by omega
   have HJ := qH (show j = 20 by omega)
   clear hj hlt
   go_wp2_with fail
   go_ret
   refine ⟨?_, HF.out⟩
   rcases HR.out with ⟨k, hk, e1, _⟩ | ⟨_, e2⟩
   ·exact absurd e1 (HNO.out k (by have := HJ.out; omega))
   ·rw [e2]
    rfl
theorem u0q (l : List UInt8) (n x : Nat) (w : World) (hm : l.length ≠ 32) :
  Calls Tryz.prog 5 #[.string (mkS l), .int .u32 (n : Int), .int .u64 (x : Int)] w fun e w' => e = .returned (.tuple #[.string ⟨#[]⟩, .int .i64 2]) ∧ Fr Nob w w' := by
 have hJ : (((mkS l).size : Int) != 32) = true := by rw [a0w]; simp; omega
 have HF := qH (Fr.refl Nob w)
 clear hm
 go_enter Tryz.func5, Tryz.ntmps5
 go_wp2_with fail
 go_ret2
 exact ⟨rfl, HF.out⟩
theorem s0k (l : List UInt8) (n x : Nat) (w : World) (hm : l.length = 32) (h : plF x = none) :
  Calls Tryz.prog 5 #[.string (mkS l), .int .u32 (n : Int), .int .u64 (x : Int)] w fun e w' => e = .returned (.tuple #[.string ⟨#[]⟩, .int .i64 7]) ∧ Fr Nob w w' := by
 have hJ : (((mkS l).size : Int) != 32) = false := by rw [a0w, hm]; rfl
 have HPL := qH (g0t x (-1) w (.inr ⟨g0s h, rfl⟩))
 clear hm h
 go_enter Tryz.func5, Tryz.ntmps5
 go_wp2_with fail
 refine HPL.out.mono ?_
 rintro e w' ⟨rfl, hf⟩
 go_wp2_with fail
 go_ret2
 exact ⟨rfl, hf⟩
theorem s0l (l : List UInt8) (n k : Nat) (w : World) (hm : l.length = 32) (hn : n ≤ 4294967295) (hk : k ≤ 19) :
  Calls Tryz.prog 5 #[.string (mkS l), .int .u32 (n : Int), .int .u64 ((2 ^ k : Nat) : Int)] w fun e w' => e = .returned (.tuple #[.string (mkS (kyS l n k)), .int .i64 0]) ∧ Fr Nob w w' := by
 have hJ : (((mkS l).size : Int) != 32) = false := by rw [a0w, hm]; rfl
 have HPL := qH (g0t (2 ^ k) (k : Int) w (.inl ⟨k, hk, rfl, rfl⟩))
 have HM := qH hm
 have HK := qH hk
 have HN := qH hn
 have hk0 : (k : Int) < 4294967296 := by omega
 have hk1 : (k : Int) % 4294967296 = (k : Int) := by omega
 have hk2 : ¬ (k : Int) < 0 := by omega
 clear hm hn hk
 generalize ((2 ^ k : Nat) : Int) = X at *
 generalize hKI : (k : Int) = K at *
 have HKI := qH hKI
 clear hKI
 go_enter Tryz.func5, Tryz.ntmps5
 go_wp2_with fail
 refine HPL.out.mono ?_
 rintro e w1 ⟨rfl, hf1⟩
 have HF1 := qH hf1
 clear HPL hf1
 go_wp2_with (with_reducible refine wSk 20 ?_)
 refine c0e rfl rfl Tryz.underlying44 l0l [.int .u32 (n : Int), .int .u32 K] rfl (by simp; exact ⟨rfl, rfl⟩) rfl rfl ?_
 intro w2 hh hf hz
 have HH := qH (show Rd w2 (some ⟨w1.heap.size, 0, none⟩) 2 (o0L [n, k]) from by have h := Rd.whole hh; rw [← HKI.out] at h; exact h)
 have HF := qH (HF1.out.then hf)
 clear hh hf hz hk0 hk1 hk2 hJ HF1
 have hc := l0q mQ .one l ⟨#[109, 105, 110, 116]⟩ (some ⟨w1.heap.size, 0, none⟩) 2 [n, k] w2 (by decide) (by intro x hx; have := HK.out; have := HN.out; simp only [List.mem_cons, List.not_mem_nil, or_false] at hx; omega) HH.out
 rw [show (⟨#[109, 105, 110, 116]⟩ : ByteArray).data.toList = [109, 105, 110, 116] from rfl, (v0m l n k HM.out).1, (v0m l n k HM.out).2] at hc
 have HC := qH hc
 clear hc HH
 go_wp2_with fail
 refine HC.out.mono ?_
 rintro e' w3 ⟨rfl, hf⟩
 have HFF := qH (HF.out.then hf)
 clear hf HC
 go_wp2_with fail
 go_ret2
 exact ⟨rfl, HFF.out⟩
theorem y0Q (l : List UInt8) (n x : Nat) (w : World) (hn : n ≤ 4294967295) :
  Calls Tryz.prog 5 #[.string (mkS l), .int .u32 (n : Int), .int .u64 (x : Int)] w fun e w' => e = .returned (.tuple #[.string (mkS (kyR l n x)), .int .i64 (kyE l x : Nat)]) ∧ Fr Nob w w' := by
 unfold kyE kyR
 by_cases h32 : l.length = 32
 ·rw [if_neg (by simpa using h32), if_neg (by simpa using h32)]
  cases h : plF x with
  | none => exact s0k l n x w h32 h
  | some k =>
   obtain ⟨hk, rfl⟩ := j0L h
   exact s0l l n k w h32 hn hk
 ·rw [if_pos h32, if_pos h32]
  exact u0q l n x w h32
end
section
open Go.RowKit Go.Mv Mvp Mvq Mvk
theorem l0w : ∀ (ls : List (List UInt8)), (∀ x ∈ ls, x.length = 33) → h0j ls ≤ 33 * ls.length
 | [], _ => Nat.zero_le _
 | x :: ls, h => by
  have h1 := h x (by simp)
  have h2 := l0w ls fun y hy => h y (by simp [hy])
  have e : h0j (x :: ls) = x.length + h0j ls := rfl
  rw [e, List.length_cons]
  omega
theorem x0f (s : List UInt8) (k : Nat) : (mkS s).extract 0 k = mkS (s.take k) := by
 apply ByteArray.ext
 apply Array.toList_inj.1
 simp [mkS]
theorem x0g (l : List (List UInt8)) (x : List UInt8) : ss l ++ [.string (mkS x)] = ss (l ++ [x]) := by simp [ss]
theorem l0x : (Tryz.prog.info? 9).map (fun i => (i.zero, i.size, i.bytes)) = some (some (.string ⟨#[]⟩), 1, 16) := by kernel_rfl
theorem s0m (k : List UInt8) (hk : b0R mQ k = true) (w : World) : Calls Tryz.prog 18 #[.string (mkS k)] w fun e w' => e = .returned (.tuple #[i4 (beN k), .bool true]) ∧ Fr Nob w w' := by
 have h := s0h (mkS k) w
 rw [b0b, hk] at h
 refine h.mono ?_
 rintro e w' ⟨N, rfl, hN, hf⟩
 rw [hN rfl]
 exact ⟨rfl, hf⟩
attribute [local irreducible] a0J lw mix cw b0t b0G b0q a0P a0u beN laid b0o b0H a0M a0V elN mdL b0R rtV c0E d0U f0p j0v b0D b0l b0B toB a0v a0I b0m c0h a0C c0i b0k a0G c0S e0i scN kyS kyP kyL kyN tS tC kyR ksN ksP h0J noR d0k RT.L srS plF
theorem x0h (l : List UInt8) (n : Nat) (w : World) (hm : l.length = 32) (hn : n ≤ 4294967295) :
  Calls Tryz.prog 9 #[.string (mkS l), .int .u32 (n : Int)] w fun e w' => ∃ a c, e = .returned (.tuple #[.string (mkS (kyN l n)), .slice a 20 c, .int .i64 0]) ∧ Rd w' a 20 (ss (kyL l n 20)) ∧ Fr Nob w w' := by
 have hJ : (((mkS l).size : Int) != 32) = false := by rw [a0w, hm]; rfl
 have HM := qH hm
 have HN := qH hn
 clear hm hn
 go_enter Tryz.func9, Tryz.ntmps9
 go_wp2_with fail
 clear hJ
 go_loopw [8, 7] (fun i q wr => ∃ j : Nat, j ≤ 20 ∧ i = .int .i64 (j : Int) ∧ Go.Mv.Own wr w.heap.size 9 1 q (kyL l n j).length (ss (kyL l n j)) ∧ Fr Nob w wr) (fun i _ _ => 20 - (intOf i).toNat)
 case atStart => exact ⟨0, by omega, rfl, by rw [y0B]; exact Go.Mv.Own.nil _ _ _ _, Fr.refl _ _⟩
 case round =>
  obtain ⟨j, hj, rfl, hown, hfr⟩ := hrel
  have HO := qH hown
  have HF := qH hfr
  clear hown hfr
  by_cases hlt : j < 20
  ·have hltI : (j : Int) < 20 := by omega
   have HJ := qH hlt
   have hk := s0l l n j wr HM.out HN.out (by omega)
   obtain ⟨y, hy⟩ : ∃ y : Nat, 2 ^ j = y := ⟨_, rfl⟩
   have hyI : (2 : Int) ^ j = (y : Int) := by rw [← hy]; simp
   have hy1 : (y : Int) < 18446744073709551616 := by
    have : 2 ^ j ≤ 2 ^ 19 := Nat.pow_le_pow_right (by decide) (by omega)
    have e3 : (2 : Nat) ^ 19 = 524288 := by decide
    omega
   rw [hy] at hk
   have HK := qH hk
   clear hj hlt hk hy
   go_wp2_with fail
   refine HK.out.mono ?_
   rintro e' w3 ⟨rfl, hf⟩
   replace HO := qH (HO.out.still hf)
   replace HF := qH (HF.out.then hf)
   clear hf HK hyI hy1
   go_wp2_with fail
   refine (s0m (kyS l n j) (j0G _ _ _) _).mono ?_
   rintro e' w4 ⟨rfl, hf⟩
   replace HO := qH (HO.out.still hf)
   replace HF := qH (HF.out.then hf)
   clear hf
   have st0 := St.start Nob w4
   go_wp2_with (with_reducible refine wSk 11 ?_)
   refine a0b st0 rfl rfl (z := zAd) (by kernel_rfl) (cw 4 0) (by rw [a0f]; rfl) ?_
   intro g11 w5 st5
   clear st0
   go_wp2_with (with_reducible refine wSn ?_)
   refine a0d st5 0 rfl rfl rfl rfl rfl (cs := cw 4 (beN (kyS l n j))) (by rw [a0a, a0a]) (by rw [a0a]; kernel_rfl) (a0i _ _) ?_
   intro w6 st6
   clear st5
   replace HO := qH (HO.out.still st6.fr)
   replace HF := qH (HF.out.then st6.fr)
   go_wp2_with (with_reducible refine wSk 34 ?_)
   refine a0h st6 0 rfl rfl rfl Tryz.underlying50 rfl (by rw [a0a]; kernel_rfl) ?_
   clear st6
   go_wp2_with fail
   refine (u0n (beN (kyS l n j)) _).mono ?_
   rintro e' w7 ⟨rfl, hf⟩
   replace HO := qH (HO.out.still hf)
   replace HF := qH (HF.out.then hf)
   clear hf
   go_wp2_with fail
   refine (p0p (d0k (beN (kyS l n j)) m0G) _).mono ?_
   rintro e' w8 ⟨rfl, hf⟩
   rw [z0C]
   replace HO := qH (HO.out.still hf)
   replace HF := qH (HF.out.then hf)
   clear hf
   go_wp2_with (with_reducible refine wSk 37 ?_)
   refine c0e rfl rfl Tryz.underlying38 l0x [.string (mkS (kyP l n j))] rfl (by simp; rfl) rfl rfl ?_
   intro w9 hh hf hz
   clear hz
   have HH := qH (Rd.whole hh)
   have HKL := qH (d0b l n j)
   replace HO := qH (HO.out.still hf)
   replace HF := qH (HF.out.then hf)
   clear hh hf
   go_wp2_with (with_reducible refine wSk 38 ?_)
   refine b0L rfl rfl Tryz.underlying38 l0x rfl (by decide) HO.out rfl rfl HH.out (fun u hu => by rw [List.mem_singleton.1 hu]; rfl) (by have := HKL.out; have := HJ.out; unfold maxLen; first | omega | (simp only [List.length_cons, List.length_nil]; omega)) (by have := HKL.out; have := HJ.out; first | omega | (simp only [List.length_cons, List.length_nil]; omega)) HF.out.size ?_
   intro q2 w10 ho hf hb
   clear hb
   have hfr := Go.Mv.Own.fr HO.out HF.out (Nat.le_refl _) hf
   have HE := qH (show Go.Mv.Own w10 w.heap.size 9 1 q2 (kyL l n (j + 1)).length (ss (kyL l n (j + 1))) from by rw [n0R, ← x0g, List.length_append]; exact ho)
   have HFE := qH hfr
   clear ho hf hfr HO HF HH HKL
   go_wp2_with fail
   go_roundw
   case rel => exact ⟨j + 1, by have := HJ.out; omega, by go_num, HE.out, HFE.out⟩
   case measure => simp [intOf]; have := HJ.out; omega
  ·have hge : ¬ ((j : Int) < 20) := by omega
   obtain rfl : j = 20 := by omega
   clear hj hlt
   obtain ⟨aq, cq, rfl, -, hrq, -⟩ := Go.Mv.Own.form HO.out
   rw [Nat.mul_one] at hrq
   have HRQ := qH hrq
   have HTG := qH (n0t ⟨#[107, 101, 121, 115, 101, 116]⟩ aq cq (kyL l n 20) wr (by have h1 := l0w _ (r0O l n 20); have h2 := d0b l n 20; have h3 : (⟨#[107, 101, 121, 115, 101, 116]⟩ : ByteArray).size = 6 := rfl; omega) (by rw [d0b]; decide) hrq)
   obtain ⟨T, hTT⟩ : ∃ T, c0S m0y (kyL l n 20) = T := ⟨_, rfl⟩
   have HT2 := qH (show (⟨#[107, 101, 121, 115, 101, 116]⟩ : ByteArray).data.toList = m0y from rfl)
   have HTT := qH hTT
   have HTL := qH (show T.length = 32 by rw [← hTT]; exact f0f _ _)
   clear hrq hTT HO
   go_wp2_with fail
   refine HTG.out.mono ?_
   rintro e' w9 ⟨rfl, hf⟩
   rw [HT2.out, HTT.out]
   have hI8 : (8 : Int) ≤ ((mkS T).size : Int) := by rw [a0w, HTL.out]; decide
   have HR9 := qH (HRQ.out.still hf)
   have HF9 := qH (HF.out.then hf)
   have HKL := qH (d0b l n 20)
   clear hf HTG HRQ HF
   go_wp2_with fail
   go_ret3
   refine ⟨aq, cq, ?_, by have h := HR9.out; rw [HKL.out] at h; exact h, HF9.out⟩
   rw [x0f, HKL.out]
   unfold kyN
   rw [HTT.out]
   rfl
theorem u0r (l : List UInt8) (n : Nat) (w : World) (hm : l.length ≠ 32) :
  Calls Tryz.prog 9 #[.string (mkS l), .int .u32 (n : Int)] w fun e w' => e = .returned (.tuple #[.string ⟨#[]⟩, .slice none 0 0, .int .i64 2]) ∧ Fr Nob w w' := by
 have hJ : (((mkS l).size : Int) != 32) = true := by rw [a0w]; simp; omega
 have HF := qH (Fr.refl Nob w)
 clear hm
 go_enter Tryz.func9, Tryz.ntmps9
 go_wp2_with fail
 go_ret3
 exact ⟨rfl, HF.out⟩
theorem v0n (l : List UInt8) (n : Nat) (w : World) (hn : n ≤ 4294967295) :
  Calls Tryz.prog 9 #[.string (mkS l), .int .u32 (n : Int)] w fun e w' => ∃ a c, e = .returned (.tuple #[.string (mkS (ksN l n)), .slice a (ksP l n).length c, .int .i64 (ksE l : Nat)]) ∧ Rd w' a (ksP l n).length (ss (ksP l n)) ∧ Fr Nob w w' := by
 unfold ksE ksN ksP
 by_cases h32 : l.length = 32
 ·rw [if_neg (by simpa using h32), if_neg (by simpa using h32), if_neg (by simpa using h32)]
  exact (x0h l n w h32 hn).mono fun e w' ⟨a, c, k1, k2, k3⟩ => ⟨a, c, by rw [d0b]; exact k1, by rw [d0b]; exact k2, k3⟩
 ·rw [if_pos h32, if_pos h32, if_pos h32]
  exact (u0r l n w h32).mono fun e w' k => ⟨none, 0, k.1, Rd.nil _ _, k.2⟩
end
section
open Go.RowKit Go.Mv Mvp
attribute [local irreducible] b0l b0B toB a0v a0I b0m c0h a0C c0i b0k a0G c0S
def inc (l : List UInt8) : List UInt8 := l.map (· + 1)
theorem b0N (l : List UInt8) : (inc l).length = l.length := by simp [inc]
def m0I (ls : List (List UInt8)) (i j : Nat) : List (List UInt8) := (ls.take i).map inc ++ ((fill (inc (ls.getD i [])) (ls.getD i []) j) :: ls.drop (i + 1)).take (ls.length - i)
theorem s0n (ls : List (List UInt8)) : m0I ls 0 0 = ls := by
 cases ls with
 | nil => rfl
 | cons a l => simp [m0I, e0K]
theorem s0o (ls : List (List UInt8)) (i : Nat) (hi : i < ls.length) : m0I ls i (ls.getD i []).length = m0I ls (i + 1) 0 := by
 unfold m0I
 rw [e0L _ _ _ (b0N _) (by rw [b0N]; exact Nat.le_refl _), e0K, List.take_succ_eq_append_getElem hi, List.map_append, List.append_assoc]
 congr 1
 have e : ls.getD i [] = ls[i] := by simp [List.getD_eq_getElem?_getD, hi]
 rw [e, show ls.length - i = (ls.length - i - 1) + 1 by omega, List.take_succ_cons]
 simp only [List.map_cons, List.map_nil, List.singleton_append]
 congr 1
 rw [List.take_of_length_le (by rw [List.length_drop]; omega)]
 rcases Nat.lt_or_ge (i + 1) ls.length with h | h
 ·have e2 : ls.getD (i + 1) [] = ls[i + 1] := by simp [List.getD_eq_getElem?_getD, h]
  rw [e2, ← List.drop_eq_getElem_cons h, List.take_of_length_le (by rw [List.length_drop]; omega)]
 ·rw [List.drop_eq_nil_of_le h, show ls.length - (i + 1) = 0 by omega]; rfl
theorem u0s (ls : List (List UInt8)) : m0I ls ls.length 0 = ls.map inc := by
 unfold m0I
 rw [Nat.sub_self, List.take_zero, List.append_nil, List.take_length]
theorem u0t (ls : List (List UInt8)) (i j : Nat) (hi : i < ls.length) (hj : j < (ls.getD i []).length) : (m0I ls i j).set i ((fill (inc (ls.getD i [])) (ls.getD i []) j).set j ((inc (ls.getD i [])).getD j 0)) = m0I ls i (j + 1) := by
 unfold m0I
 rw [f0Y _ _ _ (b0N _) (by rw [b0N]; exact hj)]
 have e : ((ls.take i).map inc).length = i := by rw [List.length_map, List.length_take]; omega
 rw [List.set_append_right _ _ (by omega), e, Nat.sub_self, show ls.length - i = (ls.length - i - 1) + 1 by omega, List.take_succ_cons, List.take_succ_cons, List.set_cons_zero]
theorem u0u (ls : List (List UInt8)) (i j : Nat) (hi : i < ls.length) : (m0I ls i j)[i]? = some (fill (inc (ls.getD i [])) (ls.getD i []) j) := by
 unfold m0I
 have e : ((ls.take i).map inc).length = i := by rw [List.length_map, List.length_take]; omega
 rw [List.getElem?_append_right (by omega), e, Nat.sub_self, show ls.length - i = (ls.length - i - 1) + 1 by omega, List.take_succ_cons]
 rfl
theorem Sep.ne {vs : List Value} (h : Sep vs) {i j : Nat} {a b : Value} (hi : vs[i]? = some a) (hj : vs[j]? = some b) (hij : i ≠ j) (k : Nat) (hk : c0o a k) : ¬ c0o b k := by
 unfold Sep at h
 rw [List.pairwise_iff_getElem] at h
 obtain ⟨h1, rfl⟩ := List.getElem?_eq_some_iff.1 hi
 obtain ⟨h2, rfl⟩ := List.getElem?_eq_some_iff.1 hj
 rcases Nat.lt_or_gt_of_ne hij with h3 | h3
 ·exact h i j h1 h2 h3 k hk
 ·exact fun hk' => h j i h2 h1 h3 k hk' hk
theorem POwn.keepAt {w w' : World} {base : Nat} {S : Nat → Prop} (hf : Fr S w w') : ∀ {vs : List Value} {ls : List (List UInt8)}, POwn w base vs ls → (∀ (j : Nat) (v : Value), vs[j]? = some v → ∀ k, c0o v k → ¬ S k) → POwn w' base vs ls
 | [], [], _, _ => trivial
 | v :: vs, l :: ls, h, hs => ⟨h.1.keep hf (hs 0 v rfl), POwn.keepAt hf h.2 (fun j u hu => hs (j + 1) u (by simpa using hu))⟩
 | [], _ :: _, h, _ => h.elim
 | _ :: _, [], h, _ => h.elim
theorem POwn.upd {w w' : World} {base : Nat} {S : Nat → Prop} (hf : Fr S w w') : ∀ {vs : List Value} {ls : List (List UInt8)} (i : Nat) (l' : List UInt8), POwn w base vs ls → (∀ v, vs[i]? = some v → Own w' base 5 1 v l'.length (bs l')) → (∀ (j : Nat) (v : Value), j ≠ i → vs[j]? = some v → ∀ k, c0o v k → ¬ S k) → POwn w' base vs (ls.set i l')
 | [], [], i, l', _, _, _ => trivial
 | v :: vs, l :: ls, 0, l', h, hv, hs => ⟨hv v rfl, POwn.keepAt hf h.2 (fun j u hu => hs (j + 1) u (by omega) (by simpa using hu))⟩
 | v :: vs, l :: ls, i + 1, l', h, hv, hs => ⟨h.1.keep hf (hs 0 v (by omega) rfl), POwn.upd hf i l' h.2 (fun u hu => hv u (by simpa using hu)) (fun j u hj hu => hs (j + 1) u (by omega) (by simpa using hu))⟩
 | [], _ :: _, _, _, h, _, _ => h.elim
 | _ :: _, [], _, _, h, _, _ => h.elim
end
end Go.Proofs.YtemcankmggmgoaaGreatDoor
