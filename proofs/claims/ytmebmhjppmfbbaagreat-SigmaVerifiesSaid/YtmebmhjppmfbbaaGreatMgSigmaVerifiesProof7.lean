/- ; ; ; ; ; ; ; ; ; ; ; ; ; ; ; ; ; ; ; ; ; ; . -/
import Derived.Test.YtmebmhjppmfbbaaGreatMgSigmaVerifiesProof6
import Derived.Test.YtmebmhjppmfbbaaGreatMgSigmaVerifiesProof4
import Derived.Test.YtmebmhjppmfbbaaGreatMgSigmaVerifiesProof3
import Derived.Test.YtmebmhjppmfbbaaGreatMgSigmaVerifiesProof5
import Derived.Test.YtmebmhjppmfbbaaGreatMgSigmaVerifiesProof1
import Derived.Test.YtmebmhjppmfbbaaGreatMgSigmaVerifiesProof2

set_option maxHeartbeats 16000000
set_option maxRecDepth 1000000
namespace Go.Proofs.YtmebmhjppmfbbaaGreat
open Go.RowKit Go.Mv Mvp Mvq
def rpL (x y z : K) : List Value := cw 4 (kN x) ++ (cw 4 (kN y) ++ cw 4 (kN z))
def rpV (x y z : K) : Value := .agg (rpL x y z).toArray
theorem i0V : kN 0 = 0 := rfl
theorem g0H (a b c : Nat) : Tryz.prog.built 76 [(0, i4 a), (1, i4 b), (2, i4 c)] = some (cw 4 a ++ (cw 4 b ++ cw 4 c)).toArray := by kernel_rfl
theorem t0O (b : Nat) : Tryz.prog.built 76 [(1, i4 b)] = some (cw 4 0 ++ (cw 4 b ++ cw 4 0)).toArray := by kernel_rfl
theorem f0j : Tryz.prog.built 76 [] = some (cw 4 0 ++ (cw 4 0 ++ cw 4 0)).toArray := by kernel_rfl
theorem f0w : (Tryz.prog.info? 68).map (·.zero) = some (some (.agg (cw 4 0).toArray)) := by kernel_rfl
attribute [local irreducible] a0E lw mix cw b0o b0x b0l a0L a0q beN b0F b0c b0z a0J a0N elN mdL b0e rtV b0Q kN kc c0E b0C
theorem m0T (w : World) : Calls Tryz.prog 91 #[] w fun e w' => e = .returned (rpV 0 1 0) ∧ Fr Nob w w' := by
 have st0 := St.start Nob w
 go_enter Tryz.func91, Tryz.ntmps91
 go_wp2_with (with_reducible refine wSk 0 ?_)
 refine a0a st0 rfl rfl (z := zAc) ap11 (cw 12 0) ap9 ?_
 intro g0 w1 st1
 clear st0
 go_wp2_with fail
 refine (o0l _).mono ?_
 rintro e' w2 ⟨rfl, hf2⟩
 have st2 := st1.keep hf2
 clear st1 hf2
 go_wp2_with (with_reducible refine wSk 2 ?_)
 refine a0X rfl rfl _ (t0O _) ?_
 go_wp2_with (with_reducible refine wSn ?_)
 refine a0b st2 0 rfl rfl rfl rfl rfl ap10 ap11 (a0Q _ _ _) ?_
 intro w3 st3
 clear st2
 have hr := st3.at 0 rfl
 have hfr := st3.fr
 clear st3
 go_wp2_with fail
 exact bodyPost_ret (a0t rfl rfl hr Tryz.underlying76 rfl ap11) rfl ⟨by unfold rpV rpL; rw [i0V], hfr⟩
theorem b0N (x y z : K) (b : Bool) (hb : decide (z = 0) = b) (w : World) : Calls Tryz.prog 121 #[rpV x y z] w fun e w' => e = .returned (.bool b) ∧ Fr Nob w w' := by
 have HB := Lib.hid hb
 clear hb
 unfold rpV rpL
 have st0 := St.start Nob w
 go_enter Tryz.func121, Tryz.ntmps121
 go_wp2_with (with_reducible refine wSk 1 ?_)
 refine a0l st0 rfl rfl rfl (cw 4 (kN x) ++ (cw 4 (kN y) ++ cw 4 (kN z))) rfl ?_
 intro g1 w1 st1
 clear st0
 go_wp2_with (with_reducible refine wSk 4 ?_)
 refine c0h rfl rfl Tryz.underlying68 rfl (st1.at 0 rfl) (cw 4 (kN z)) (f0c _ _ _) ap11 ?_
 go_wp2_with fail
 refine (B0Q z b HB.out _).mono ?_
 rintro e' w2 ⟨rfl, hf2⟩
 have st2 := st1.keep hf2
 clear st1 hf2
 have hfr := st2.fr
 clear st2
 go_wp2_with fail
 go_ret
 exact ⟨rfl, hfr⟩
theorem w0J (x y z r : K) (er : -y = r) (w : World) : Calls Tryz.prog 78 #[rpV x y z] w fun e w' => e = .returned (rpV x r z) ∧ Fr Nob w w' := by
 have Hr := Lib.hid er
 clear er
 unfold rpV rpL
 have st0 := St.start Nob w
 go_enter Tryz.func78, Tryz.ntmps78
 go_wp2_with (with_reducible refine wSk 1 ?_)
 refine a0l st0 rfl rfl rfl (cw 4 (kN x) ++ (cw 4 (kN y) ++ cw 4 (kN z))) rfl ?_
 intro g1 w1 st1
 clear st0
 go_wp2_with (with_reducible refine wSk 2 ?_)
 refine a0a st1 rfl rfl (z := zAc) ap11 (cw 12 0) ap9 ?_
 intro g2 w2 st2
 clear st1
 go_wp2_with fail
 refine wp_region_noPanic ?_
 refine a0f st2 9 [.w 0, .t 1, .w 3, .t 4, .w 6, .t 7, .c 2, .c 5, .w 8] (.m 9 .nil) ap11 ap11 (fun _ _ _ _ _ h => h) ?_
 clear st2
 refine a0p rfl rfl apX ?_
 try simp only [clL]
 refine a0d rfl rfl rfl (fun _ => rfl) (cw 4 (kN x)) (fun wx hS => St.rangeL hS 0 rfl 0 _ (i0Z _ _ _)) Tryz.underlying68 rfl ap11 ?_
 try simp only [clL]
 refine a0p rfl rfl apX ?_
 try simp only [clL]
 refine a0d rfl rfl rfl (fun _ => rfl) (cw 4 (kN y)) (fun wx hS => St.rangeL hS 0 rfl 4 _ (l0q _ _ _)) Tryz.underlying68 rfl ap11 ?_
 try simp only [clL]
 refine a0p rfl rfl apX ?_
 try simp only [clL]
 refine a0d rfl rfl rfl (fun _ => rfl) (cw 4 (kN z)) (fun wx hS => St.rangeL hS 0 rfl 8 _ (f0c _ _ _)) Tryz.underlying68 rfl ap11 ?_
 try simp only [clL]
 refine a0c rfl rfl rfl Tryz.call122 (fun w hS hR => a0H _) (fun _ => rfl) ?_
 try simp only [clL]
 refine a0c rfl rfl rfl Tryz.call138 (fun w hS hR => D0w y r Hr.out _) (fun _ => rfl) ?_
 try simp only [clL]
 refine a0p rfl rfl (fun _ => b0f rfl _ (g0H _ _ _)) ?_
 try simp only [clL]
 refine a0v fun xq w3 st3 hR => ?_
 try dsimp only
 clear hR xq
 refine a0r rfl rfl ?_
 refine a0h st3 1 rfl rfl rfl rfl ap10 ap11 (a0Q _ _ _) ?_
 intro w4 st4
 repeat (first | simp only [List.cons_append] at st4 | simp only [List.nil_append] at st4 | simp only [List.set_cons_succ] at st4 | simp only [List.set_cons_zero] at st4)
 clear st3
 try simp only [Act.put]
 refine a0j ?_
 refine NoPanic.normal ?_
 have hr := st4.at 1 rfl
 have hfr := st4.fr
 clear st4
 go_wp2_with fail
 exact bodyPost_ret (a0t rfl rfl hr Tryz.underlying76 rfl ap11) rfl ⟨rfl, hfr⟩
theorem t0P (x y z : K) (xx d1 d y2 ee e2 e3 t1 t2 x2 t3 t X s1 s2 s3 s4 Y Z : K) (exx : x * x = xx) (ed1 : xx + xx = d1) (ed : d1 + xx = d) (ey2 : y + y = y2) (eee : y2 * z = ee) (ee2 : ee * ee = e2) (ee3 : e2 * ee = e3) (et1 : d * d = t1) (et2 : t1 * z = t2) (ex2 : x + x = x2) (et3 : x2 * e2 = t3) (et : t2 - t3 = t) (eX : ee * t = X) (es1 : x * e2 = s1) (es2 : s1 - t = s2) (es3 : d * s2 = s3) (es4 : y * e3 = s4) (eY : s3 - s4 = Y) (eZ : e3 * z = Z) (w : World) : Calls Tryz.prog 132 #[rpV x y z] w fun e w' => e = .returned (rpV X Y Z) ∧ Fr Nob w w' := by
 have Hxx := Lib.hid exx
 have Hd1 := Lib.hid ed1
 have Hd := Lib.hid ed
 have Hy2 := Lib.hid ey2
 have Hee := Lib.hid eee
 have He2 := Lib.hid ee2
 have He3 := Lib.hid ee3
 have Ht1 := Lib.hid et1
 have Ht2 := Lib.hid et2
 have Hx2 := Lib.hid ex2
 have Ht3 := Lib.hid et3
 have Ht := Lib.hid et
 have HX := Lib.hid eX
 have Hs1 := Lib.hid es1
 have Hs2 := Lib.hid es2
 have Hs3 := Lib.hid es3
 have Hs4 := Lib.hid es4
 have HY := Lib.hid eY
 have HZ := Lib.hid eZ
 clear exx ed1 ed ey2 eee ee2 ee3 et1 et2 ex2 et3 et eX es1 es2 es3 es4 eY eZ
 unfold rpV rpL
 have st0 := St.start Nob w
 go_enter Tryz.func132, Tryz.ntmps132
 go_wp2_with (with_reducible refine wSk 1 ?_)
 refine a0l st0 rfl rfl rfl (cw 4 (kN x) ++ (cw 4 (kN y) ++ cw 4 (kN z))) rfl ?_
 intro g1 w1 st1
 clear st0
 go_wp2_with (with_reducible refine wSk 2 ?_)
 refine a0a st1 rfl rfl (z := zAc) ap11 (cw 12 0) ap9 ?_
 intro g2 w2 st2
 clear st1
 go_wp2_with fail
 refine wp_region_noPanic ?_
 refine a0f st2 7 [.o 6, .w 1, .t 2, .w 3, .t 4, .c 0, .c 5, .j 6] (.m 7 .nil) ap11 ap11 (fun _ _ _ _ _ h => h) ?_
 clear st2
 refine b0p rfl rfl rfl f0w (cw 4 0) rfl ?_
 try simp only [clL]
 refine a0p rfl rfl apX ?_
 try simp only [clL]
 refine a0d rfl rfl rfl (fun _ => rfl) (cw 4 (kN x)) (fun wx hS => St.rangeL hS 0 rfl 0 _ (i0Z _ _ _)) Tryz.underlying68 rfl ap11 ?_
 try simp only [clL]
 refine a0p rfl rfl apX ?_
 try simp only [clL]
 refine a0d rfl rfl rfl (fun _ => rfl) (cw 4 (kN x)) (fun wx hS => St.rangeL hS 0 rfl 0 _ (i0Z _ _ _)) Tryz.underlying68 rfl ap11 ?_
 try simp only [clL]
 refine a0c rfl rfl rfl Tryz.call122 (fun w hS hR => a0H _) (fun _ => rfl) ?_
 try simp only [clL]
 refine a0c rfl rfl rfl Tryz.call54 (fun w hS hR => d0P x x xx Hxx.out _) (fun _ => rfl) ?_
 try simp only [clL]
 refine b0q List.mem_cons_self fun g3 => ?_
 simp only [upd, reduceIte]
 refine a0v fun xq w3 st3 hR => ?_
 try dsimp only
 clear hR xq
 refine a0r rfl rfl ?_
 refine a0h st3 2 rfl rfl rfl rfl ap10 ap11 (a0g _ _) ?_
 intro w4 st4
 repeat (first | simp only [List.cons_append] at st4 | simp only [List.nil_append] at st4 | simp only [List.set_cons_succ] at st4 | simp only [List.set_cons_zero] at st4)
 clear st3
 try simp only [Act.put]
 refine a0j ?_
 refine NoPanic.normal ?_
 go_wp2_with fail
 refine wp_region_noPanic ?_
 refine a0f st4 8 [.o 7, .t 2, .t 3, .t 5, .c 0, .c 1, .c 4, .c 6, .j 7] (.m 8 .nil) ap11 ap11 (fun _ _ _ _ _ h => h) ?_
 clear st4
 refine b0p rfl rfl rfl f0w (cw 4 0) rfl ?_
 try simp only [clL]
 refine a0d rfl rfl rfl (fun _ => rfl) (cw 4 (kN xx)) (fun wx hS => St.rangeL hS 2 rfl 0 _ dZl) Tryz.underlying68 rfl ap11 ?_
 try simp only [clL]
 refine a0d rfl rfl rfl (fun _ => rfl) (cw 4 (kN xx)) (fun wx hS => St.rangeL hS 2 rfl 0 _ dZl) Tryz.underlying68 rfl ap11 ?_
 try simp only [clL]
 refine a0d rfl rfl rfl (fun _ => rfl) (cw 4 (kN xx)) (fun wx hS => St.rangeL hS 2 rfl 0 _ dZl) Tryz.underlying68 rfl ap11 ?_
 try simp only [clL]
 refine a0c rfl rfl rfl Tryz.call122 (fun w hS hR => a0H _) (fun _ => rfl) ?_
 try simp only [clL]
 refine a0c rfl rfl rfl Tryz.call122 (fun w hS hR => a0H _) (fun _ => rfl) ?_
 try simp only [clL]
 refine a0c rfl rfl rfl Tryz.call53 (fun w hS hR => z0L xx xx d1 Hd1.out _) (fun _ => rfl) ?_
 try simp only [clL]
 refine a0c rfl rfl rfl Tryz.call53 (fun w hS hR => z0L d1 xx d Hd.out _) (fun _ => rfl) ?_
 try simp only [clL]
 refine b0q List.mem_cons_self fun g4 => ?_
 simp only [upd, reduceIte]
 refine a0v fun xq w5 st5 hR => ?_
 try dsimp only
 clear hR xq
 refine a0r rfl rfl ?_
 refine a0h st5 3 rfl rfl rfl rfl ap10 ap11 (a0g _ _) ?_
 intro w6 st6
 repeat (first | simp only [List.cons_append] at st6 | simp only [List.nil_append] at st6 | simp only [List.set_cons_succ] at st6 | simp only [List.set_cons_zero] at st6)
 clear st5
 try simp only [Act.put]
 refine a0j ?_
 refine NoPanic.normal ?_
 go_wp2_with fail
 refine wp_region_noPanic ?_
 refine a0f st6 11 [.o 10, .w 2, .t 3, .w 4, .t 5, .w 7, .t 8, .c 0, .c 1, .c 6, .c 9, .j 10] (.m 11 .nil) ap11 ap11 (fun _ _ _ _ _ h => h) ?_
 clear st6
 refine b0p rfl rfl rfl f0w (cw 4 0) rfl ?_
 try simp only [clL]
 refine a0p rfl rfl apX ?_
 try simp only [clL]
 refine a0d rfl rfl rfl (fun _ => rfl) (cw 4 (kN y)) (fun wx hS => St.rangeL hS 0 rfl 4 _ (l0q _ _ _)) Tryz.underlying68 rfl ap11 ?_
 try simp only [clL]
 refine a0p rfl rfl apX ?_
 try simp only [clL]
 refine a0d rfl rfl rfl (fun _ => rfl) (cw 4 (kN y)) (fun wx hS => St.rangeL hS 0 rfl 4 _ (l0q _ _ _)) Tryz.underlying68 rfl ap11 ?_
 try simp only [clL]
 refine a0p rfl rfl apX ?_
 try simp only [clL]
 refine a0d rfl rfl rfl (fun _ => rfl) (cw 4 (kN z)) (fun wx hS => St.rangeL hS 0 rfl 8 _ (f0c _ _ _)) Tryz.underlying68 rfl ap11 ?_
 try simp only [clL]
 refine a0c rfl rfl rfl Tryz.call122 (fun w hS hR => a0H _) (fun _ => rfl) ?_
 try simp only [clL]
 refine a0c rfl rfl rfl Tryz.call122 (fun w hS hR => a0H _) (fun _ => rfl) ?_
 try simp only [clL]
 refine a0c rfl rfl rfl Tryz.call53 (fun w hS hR => z0L y y y2 Hy2.out _) (fun _ => rfl) ?_
 try simp only [clL]
 refine a0c rfl rfl rfl Tryz.call54 (fun w hS hR => d0P y2 z ee Hee.out _) (fun _ => rfl) ?_
 try simp only [clL]
 refine b0q List.mem_cons_self fun g5 => ?_
 simp only [upd, reduceIte]
 refine a0v fun xq w7 st7 hR => ?_
 try dsimp only
 clear hR xq
 refine a0r rfl rfl ?_
 refine a0h st7 4 rfl rfl rfl rfl ap10 ap11 (a0g _ _) ?_
 intro w8 st8
 repeat (first | simp only [List.cons_append] at st8 | simp only [List.nil_append] at st8 | simp only [List.set_cons_succ] at st8 | simp only [List.set_cons_zero] at st8)
 clear st7
 try simp only [Act.put]
 refine a0j ?_
 refine NoPanic.normal ?_
 go_wp2_with fail
 refine wp_region_noPanic ?_
 refine a0f st8 5 [.o 4, .t 1, .t 2, .c 0, .c 3, .j 4] (.m 5 .nil) ap11 ap11 (fun _ _ _ _ _ h => h) ?_
 clear st8
 refine b0p rfl rfl rfl f0w (cw 4 0) rfl ?_
 try simp only [clL]
 refine a0d rfl rfl rfl (fun _ => rfl) (cw 4 (kN ee)) (fun wx hS => St.rangeL hS 4 rfl 0 _ dZl) Tryz.underlying68 rfl ap11 ?_
 try simp only [clL]
 refine a0d rfl rfl rfl (fun _ => rfl) (cw 4 (kN ee)) (fun wx hS => St.rangeL hS 4 rfl 0 _ dZl) Tryz.underlying68 rfl ap11 ?_
 try simp only [clL]
 refine a0c rfl rfl rfl Tryz.call122 (fun w hS hR => a0H _) (fun _ => rfl) ?_
 try simp only [clL]
 refine a0c rfl rfl rfl Tryz.call54 (fun w hS hR => d0P ee ee e2 He2.out _) (fun _ => rfl) ?_
 try simp only [clL]
 refine b0q List.mem_cons_self fun g6 => ?_
 simp only [upd, reduceIte]
 refine a0v fun xq w9 st9 hR => ?_
 try dsimp only
 clear hR xq
 refine a0r rfl rfl ?_
 refine a0h st9 5 rfl rfl rfl rfl ap10 ap11 (a0g _ _) ?_
 intro w10 st10
 repeat (first | simp only [List.cons_append] at st10 | simp only [List.nil_append] at st10 | simp only [List.set_cons_succ] at st10 | simp only [List.set_cons_zero] at st10)
 clear st9
 try simp only [Act.put]
 refine a0j ?_
 refine NoPanic.normal ?_
 go_wp2_with fail
 refine wp_region_noPanic ?_
 refine a0f st10 5 [.o 4, .t 1, .t 2, .c 0, .c 3, .j 4] (.m 5 .nil) ap11 ap11 (fun _ _ _ _ _ h => h) ?_
 clear st10
 refine b0p rfl rfl rfl f0w (cw 4 0) rfl ?_
 try simp only [clL]
 refine a0d rfl rfl rfl (fun _ => rfl) (cw 4 (kN e2)) (fun wx hS => St.rangeL hS 5 rfl 0 _ dZl) Tryz.underlying68 rfl ap11 ?_
 try simp only [clL]
 refine a0d rfl rfl rfl (fun _ => rfl) (cw 4 (kN ee)) (fun wx hS => St.rangeL hS 4 rfl 0 _ dZl) Tryz.underlying68 rfl ap11 ?_
 try simp only [clL]
 refine a0c rfl rfl rfl Tryz.call122 (fun w hS hR => a0H _) (fun _ => rfl) ?_
 try simp only [clL]
 refine a0c rfl rfl rfl Tryz.call54 (fun w hS hR => d0P e2 ee e3 He3.out _) (fun _ => rfl) ?_
 try simp only [clL]
 refine b0q List.mem_cons_self fun g7 => ?_
 simp only [upd, reduceIte]
 refine a0v fun xq w11 st11 hR => ?_
 try dsimp only
 clear hR xq
 refine a0r rfl rfl ?_
 refine a0h st11 6 rfl rfl rfl rfl ap10 ap11 (a0g _ _) ?_
 intro w12 st12
 repeat (first | simp only [List.cons_append] at st12 | simp only [List.nil_append] at st12 | simp only [List.set_cons_succ] at st12 | simp only [List.set_cons_zero] at st12)
 clear st11
 try simp only [Act.put]
 refine a0j ?_
 refine NoPanic.normal ?_
 go_wp2_with fail
 refine wp_region_noPanic ?_
 refine a0f st12 20 [.o 19, .t 3, .t 4, .w 6, .t 7, .w 11, .t 12, .w 13, .t 14, .t 16, .c 0, .c 1, .c 2, .c 5, .c 8, .c 9, .c 10, .c 15, .c 17, .c 18, .j 19] (.m 20 .nil) ap11 ap11 (fun _ _ _ _ _ h => h) ?_
 clear st12
 refine b0p rfl rfl rfl f0w (cw 4 0) rfl ?_
 try simp only [clL]
 refine a0d rfl rfl rfl (fun _ => rfl) (cw 4 (kN d)) (fun wx hS => St.rangeL hS 3 rfl 0 _ dZl) Tryz.underlying68 rfl ap11 ?_
 try simp only [clL]
 refine a0d rfl rfl rfl (fun _ => rfl) (cw 4 (kN d)) (fun wx hS => St.rangeL hS 3 rfl 0 _ dZl) Tryz.underlying68 rfl ap11 ?_
 try simp only [clL]
 refine a0p rfl rfl apX ?_
 try simp only [clL]
 refine a0d rfl rfl rfl (fun _ => rfl) (cw 4 (kN z)) (fun wx hS => St.rangeL hS 0 rfl 8 _ (f0c _ _ _)) Tryz.underlying68 rfl ap11 ?_
 try simp only [clL]
 refine a0p rfl rfl apX ?_
 try simp only [clL]
 refine a0d rfl rfl rfl (fun _ => rfl) (cw 4 (kN x)) (fun wx hS => St.rangeL hS 0 rfl 0 _ (i0Z _ _ _)) Tryz.underlying68 rfl ap11 ?_
 try simp only [clL]
 refine a0p rfl rfl apX ?_
 try simp only [clL]
 refine a0d rfl rfl rfl (fun _ => rfl) (cw 4 (kN x)) (fun wx hS => St.rangeL hS 0 rfl 0 _ (i0Z _ _ _)) Tryz.underlying68 rfl ap11 ?_
 try simp only [clL]
 refine a0d rfl rfl rfl (fun _ => rfl) (cw 4 (kN e2)) (fun wx hS => St.rangeL hS 5 rfl 0 _ dZl) Tryz.underlying68 rfl ap11 ?_
 try simp only [clL]
 refine a0c rfl rfl rfl Tryz.call122 (fun w hS hR => a0H _) (fun _ => rfl) ?_
 try simp only [clL]
 refine a0c rfl rfl rfl Tryz.call122 (fun w hS hR => a0H _) (fun _ => rfl) ?_
 try simp only [clL]
 refine a0c rfl rfl rfl Tryz.call122 (fun w hS hR => a0H _) (fun _ => rfl) ?_
 try simp only [clL]
 refine a0c rfl rfl rfl Tryz.call54 (fun w hS hR => d0P d d t1 Ht1.out _) (fun _ => rfl) ?_
 try simp only [clL]
 refine a0c rfl rfl rfl Tryz.call54 (fun w hS hR => d0P t1 z t2 Ht2.out _) (fun _ => rfl) ?_
 try simp only [clL]
 refine a0c rfl rfl rfl Tryz.call122 (fun w hS hR => a0H _) (fun _ => rfl) ?_
 try simp only [clL]
 refine a0c rfl rfl rfl Tryz.call122 (fun w hS hR => a0H _) (fun _ => rfl) ?_
 try simp only [clL]
 refine a0c rfl rfl rfl Tryz.call53 (fun w hS hR => z0L x x x2 Hx2.out _) (fun _ => rfl) ?_
 try simp only [clL]
 refine a0c rfl rfl rfl Tryz.call54 (fun w hS hR => d0P x2 e2 t3 Ht3.out _) (fun _ => rfl) ?_
 try simp only [clL]
 refine a0c rfl rfl rfl Tryz.call133 (fun w hS hR => w0I t2 t3 t Ht.out _) (fun _ => rfl) ?_
 try simp only [clL]
 refine b0q List.mem_cons_self fun g8 => ?_
 simp only [upd, reduceIte]
 refine a0v fun xq w13 st13 hR => ?_
 try dsimp only
 clear hR xq
 refine a0r rfl rfl ?_
 refine a0h st13 7 rfl rfl rfl rfl ap10 ap11 (a0g _ _) ?_
 intro w14 st14
 repeat (first | simp only [List.cons_append] at st14 | simp only [List.nil_append] at st14 | simp only [List.set_cons_succ] at st14 | simp only [List.set_cons_zero] at st14)
 clear st13
 try simp only [Act.put]
 refine a0j ?_
 refine NoPanic.normal ?_
 go_wp2_with fail
 refine wp_region_noPanic ?_
 refine a0f st14 5 [.o 4, .t 1, .t 2, .c 0, .c 3, .j 4] (.m 5 .nil) ap11 ap11 (fun _ _ _ _ _ h => h) ?_
 clear st14
 refine b0p rfl rfl rfl f0w (cw 4 0) rfl ?_
 try simp only [clL]
 refine a0d rfl rfl rfl (fun _ => rfl) (cw 4 (kN ee)) (fun wx hS => St.rangeL hS 4 rfl 0 _ dZl) Tryz.underlying68 rfl ap11 ?_
 try simp only [clL]
 refine a0d rfl rfl rfl (fun _ => rfl) (cw 4 (kN t)) (fun wx hS => St.rangeL hS 7 rfl 0 _ dZl) Tryz.underlying68 rfl ap11 ?_
 try simp only [clL]
 refine a0c rfl rfl rfl Tryz.call122 (fun w hS hR => a0H _) (fun _ => rfl) ?_
 try simp only [clL]
 refine a0c rfl rfl rfl Tryz.call54 (fun w hS hR => d0P ee t X HX.out _) (fun _ => rfl) ?_
 try simp only [clL]
 refine b0q List.mem_cons_self fun g9 => ?_
 simp only [upd, reduceIte]
 refine a0v fun xq w15 st15 hR => ?_
 try dsimp only
 clear hR xq
 refine a0r rfl rfl ?_
 refine a0h st15 8 rfl rfl rfl rfl ap10 ap11 (a0g _ _) ?_
 intro w16 st16
 repeat (first | simp only [List.cons_append] at st16 | simp only [List.nil_append] at st16 | simp only [List.set_cons_succ] at st16 | simp only [List.set_cons_zero] at st16)
 clear st15
 try simp only [Act.put]
 refine a0j ?_
 refine NoPanic.normal ?_
 go_wp2_with fail
 refine wp_region_noPanic ?_
 refine a0f st16 19 [.o 18, .t 2, .w 5, .t 6, .t 7, .t 9, .w 13, .t 14, .t 15, .c 0, .c 1, .c 3, .c 4, .c 8, .c 10, .c 11, .c 12, .c 16, .c 17, .j 18] (.m 19 .nil) ap11 ap11 (fun _ _ _ _ _ h => h) ?_
 clear st16
 refine b0p rfl rfl rfl f0w (cw 4 0) rfl ?_
 try simp only [clL]
 refine a0d rfl rfl rfl (fun _ => rfl) (cw 4 (kN d)) (fun wx hS => St.rangeL hS 3 rfl 0 _ dZl) Tryz.underlying68 rfl ap11 ?_
 try simp only [clL]
 refine a0p rfl rfl apX ?_
 try simp only [clL]
 refine a0d rfl rfl rfl (fun _ => rfl) (cw 4 (kN x)) (fun wx hS => St.rangeL hS 0 rfl 0 _ (i0Z _ _ _)) Tryz.underlying68 rfl ap11 ?_
 try simp only [clL]
 refine a0d rfl rfl rfl (fun _ => rfl) (cw 4 (kN e2)) (fun wx hS => St.rangeL hS 5 rfl 0 _ dZl) Tryz.underlying68 rfl ap11 ?_
 try simp only [clL]
 refine a0d rfl rfl rfl (fun _ => rfl) (cw 4 (kN t)) (fun wx hS => St.rangeL hS 7 rfl 0 _ dZl) Tryz.underlying68 rfl ap11 ?_
 try simp only [clL]
 refine a0p rfl rfl apX ?_
 try simp only [clL]
 refine a0d rfl rfl rfl (fun _ => rfl) (cw 4 (kN y)) (fun wx hS => St.rangeL hS 0 rfl 4 _ (l0q _ _ _)) Tryz.underlying68 rfl ap11 ?_
 try simp only [clL]
 refine a0d rfl rfl rfl (fun _ => rfl) (cw 4 (kN e3)) (fun wx hS => St.rangeL hS 6 rfl 0 _ dZl) Tryz.underlying68 rfl ap11 ?_
 try simp only [clL]
 refine a0c rfl rfl rfl Tryz.call122 (fun w hS hR => a0H _) (fun _ => rfl) ?_
 try simp only [clL]
 refine a0c rfl rfl rfl Tryz.call122 (fun w hS hR => a0H _) (fun _ => rfl) ?_
 try simp only [clL]
 refine a0c rfl rfl rfl Tryz.call122 (fun w hS hR => a0H _) (fun _ => rfl) ?_
 try simp only [clL]
 refine a0c rfl rfl rfl Tryz.call122 (fun w hS hR => a0H _) (fun _ => rfl) ?_
 try simp only [clL]
 refine a0c rfl rfl rfl Tryz.call54 (fun w hS hR => d0P x e2 s1 Hs1.out _) (fun _ => rfl) ?_
 try simp only [clL]
 refine a0c rfl rfl rfl Tryz.call133 (fun w hS hR => w0I s1 t s2 Hs2.out _) (fun _ => rfl) ?_
 try simp only [clL]
 refine a0c rfl rfl rfl Tryz.call54 (fun w hS hR => d0P d s2 s3 Hs3.out _) (fun _ => rfl) ?_
 try simp only [clL]
 refine a0c rfl rfl rfl Tryz.call122 (fun w hS hR => a0H _) (fun _ => rfl) ?_
 try simp only [clL]
 refine a0c rfl rfl rfl Tryz.call54 (fun w hS hR => d0P y e3 s4 Hs4.out _) (fun _ => rfl) ?_
 try simp only [clL]
 refine a0c rfl rfl rfl Tryz.call133 (fun w hS hR => w0I s3 s4 Y HY.out _) (fun _ => rfl) ?_
 try simp only [clL]
 refine b0q List.mem_cons_self fun g10 => ?_
 simp only [upd, reduceIte]
 refine a0v fun xq w17 st17 hR => ?_
 try dsimp only
 clear hR xq
 refine a0r rfl rfl ?_
 refine a0h st17 9 rfl rfl rfl rfl ap10 ap11 (a0g _ _) ?_
 intro w18 st18
 repeat (first | simp only [List.cons_append] at st18 | simp only [List.nil_append] at st18 | simp only [List.set_cons_succ] at st18 | simp only [List.set_cons_zero] at st18)
 clear st17
 try simp only [Act.put]
 refine a0j ?_
 refine NoPanic.normal ?_
 go_wp2_with fail
 refine wp_region_noPanic ?_
 refine a0f st18 8 [.t 0, .t 1, .t 3, .w 4, .t 5, .c 2, .c 6, .w 7] (.m 8 .nil) ap11 ap11 (fun _ _ _ _ _ h => h) ?_
 clear st18
 refine a0d rfl rfl rfl (fun _ => rfl) (cw 4 (kN X)) (fun wx hS => St.rangeL hS 8 rfl 0 _ dZl) Tryz.underlying68 rfl ap11 ?_
 try simp only [clL]
 refine a0d rfl rfl rfl (fun _ => rfl) (cw 4 (kN Y)) (fun wx hS => St.rangeL hS 9 rfl 0 _ dZl) Tryz.underlying68 rfl ap11 ?_
 try simp only [clL]
 refine a0d rfl rfl rfl (fun _ => rfl) (cw 4 (kN e3)) (fun wx hS => St.rangeL hS 6 rfl 0 _ dZl) Tryz.underlying68 rfl ap11 ?_
 try simp only [clL]
 refine a0p rfl rfl apX ?_
 try simp only [clL]
 refine a0d rfl rfl rfl (fun _ => rfl) (cw 4 (kN z)) (fun wx hS => St.rangeL hS 0 rfl 8 _ (f0c _ _ _)) Tryz.underlying68 rfl ap11 ?_
 try simp only [clL]
 refine a0c rfl rfl rfl Tryz.call122 (fun w hS hR => a0H _) (fun _ => rfl) ?_
 try simp only [clL]
 refine a0c rfl rfl rfl Tryz.call54 (fun w hS hR => d0P e3 z Z HZ.out _) (fun _ => rfl) ?_
 try simp only [clL]
 refine a0p rfl rfl (fun _ => b0f rfl _ (g0H _ _ _)) ?_
 try simp only [clL]
 refine a0v fun xq w19 st19 hR => ?_
 try dsimp only
 clear hR xq
 refine a0r rfl rfl ?_
 refine a0h st19 1 rfl rfl rfl rfl ap10 ap11 (a0Q _ _ _) ?_
 intro w20 st20
 try simp only [List.set_cons_zero, List.set_cons_succ] at st20
 clear st19
 try simp only [Act.put]
 refine a0j ?_
 refine NoPanic.normal ?_
 have hr := st20.at 1 rfl
 have hfr := st20.fr
 clear st20
 go_wp2_with fail
 exact bodyPost_ret (a0t rfl rfl hr Tryz.underlying76 rfl ap11) rfl ⟨rfl, hfr⟩
theorem o0m (x1 y1 z1 x2 y2 z2 : K) (hb1 : decide (z1 = 0) = true) (w : World) : Calls Tryz.prog 64 #[rpV x1 y1 z1, rpV x2 y2 z2] w fun e w' => e = .returned (rpV x2 y2 z2) ∧ Fr Nob w w' := by
 have HB1 := Lib.hid hb1
 clear hb1
 unfold rpV rpL
 have st0 := St.start Nob w
 go_enter Tryz.func64, Tryz.ntmps64
 go_wp2_with (with_reducible refine wSk 2 ?_)
 refine a0l st0 rfl rfl rfl (cw 4 (kN x1) ++ (cw 4 (kN y1) ++ cw 4 (kN z1))) rfl ?_
 intro g2 w1 st1
 clear st0
 go_wp2_with (with_reducible refine wSk 3 ?_)
 refine a0l st1 rfl rfl rfl (cw 4 (kN x2) ++ (cw 4 (kN y2) ++ cw 4 (kN z2))) rfl ?_
 intro g3 w2 st2
 clear st1
 go_wp2_with (with_reducible refine wSk 4 ?_)
 refine a0a st2 rfl rfl (z := zAc) ap11 (cw 12 0) ap9 ?_
 intro g4 w3 st3
 clear st2
 go_wp2_with (with_reducible refine wSk 16 ?_)
 refine a0m st3 0 rfl rfl rfl Tryz.underlying76 rfl rfl ap11 ?_
 go_wp2_with fail
 refine (b0N x1 y1 z1 true HB1.out _).mono ?_
 rintro e' w4 ⟨rfl, hf4⟩
 have st4 := st3.keep hf4
 clear st3 hf4
 go_wp2_with (with_reducible refine wSk 19 ?_)
 refine a0m st4 1 rfl rfl rfl Tryz.underlying76 rfl rfl ap11 ?_
 go_wp2_with (with_reducible refine wSn ?_)
 refine a0b st4 2 rfl rfl rfl rfl rfl ap10 ap11 (a0Q _ _ _) ?_
 intro w5 st5
 clear st4
 have hr := st5.at 2 rfl
 have hfr := st5.fr
 clear st5
 go_wp2_with fail
 exact bodyPost_ret (a0t rfl rfl hr Tryz.underlying76 rfl ap11) rfl ⟨rfl, hfr⟩
theorem o0n (x1 y1 z1 x2 y2 z2 : K) (hb1 : decide (z1 = 0) = false) (hb2 : decide (z2 = 0) = true) (w : World) : Calls Tryz.prog 64 #[rpV x1 y1 z1, rpV x2 y2 z2] w fun e w' => e = .returned (rpV x1 y1 z1) ∧ Fr Nob w w' := by
 have HB1 := Lib.hid hb1
 have HB2 := Lib.hid hb2
 clear hb1 hb2
 unfold rpV rpL
 have st0 := St.start Nob w
 go_enter Tryz.func64, Tryz.ntmps64
 go_wp2_with (with_reducible refine wSk 2 ?_)
 refine a0l st0 rfl rfl rfl (cw 4 (kN x1) ++ (cw 4 (kN y1) ++ cw 4 (kN z1))) rfl ?_
 intro g2 w1 st1
 clear st0
 go_wp2_with (with_reducible refine wSk 3 ?_)
 refine a0l st1 rfl rfl rfl (cw 4 (kN x2) ++ (cw 4 (kN y2) ++ cw 4 (kN z2))) rfl ?_
 intro g3 w2 st2
 clear st1
 go_wp2_with (with_reducible refine wSk 4 ?_)
 refine a0a st2 rfl rfl (z := zAc) ap11 (cw 12 0) ap9 ?_
 intro g4 w3 st3
 clear st2
 go_wp2_with (with_reducible refine wSk 16 ?_)
 refine a0m st3 0 rfl rfl rfl Tryz.underlying76 rfl rfl ap11 ?_
 go_wp2_with fail
 refine (b0N x1 y1 z1 false HB1.out _).mono ?_
 rintro e' w4 ⟨rfl, hf4⟩
 have st4 := st3.keep hf4
 clear st3 hf4
 go_wp2_with (with_reducible refine wSk 20 ?_)
 refine a0m st4 1 rfl rfl rfl Tryz.underlying76 rfl rfl ap11 ?_
 go_wp2_with fail
 refine (b0N x2 y2 z2 true HB2.out _).mono ?_
 rintro e' w5 ⟨rfl, hf5⟩
 have st5 := st4.keep hf5
 clear st4 hf5
 go_wp2_with (with_reducible refine wSk 23 ?_)
 refine a0m st5 0 rfl rfl rfl Tryz.underlying76 rfl rfl ap11 ?_
 go_wp2_with (with_reducible refine wSn ?_)
 refine a0b st5 2 rfl rfl rfl rfl rfl ap10 ap11 (a0Q _ _ _) ?_
 intro w6 st6
 clear st5
 have hr := st6.at 2 rfl
 have hfr := st6.fr
 clear st6
 go_wp2_with fail
 exact bodyPost_ret (a0t rfl rfl hr Tryz.underlying76 rfl ap11) rfl ⟨rfl, hfr⟩
theorem B0R {P : Program} {ops : Array Oper} {Q : Exit → Act → World → Prop} {a : Act} {w : World} {rest : List Oper} {o : Oper} (hw : Region.wanted o (yielded ops a.tmps) = true) (h : wpList P ops Q ({o with guard := none} :: rest) a w) : wpList P ops Q (o :: rest) a w := by
 unfold wpList at h ⊢
 rw [if_pos hw]
 rw [if_pos (by simp [Region.wanted])] at h
 exact h
theorem m0U (x y : K) {o : Oper} {a : Act} {p q : Operand} {T : TypeId} (ho : o.op = .binOp .neq 68 p q T) (hp : a.eval p = i4 (kN x)) (hq : a.eval q = i4 (kN y)) {b : Bool} (hb : decide (x = y) = b) (w : World) :
  (execOp a.eval o).run Tryz.prog w = .ok (.value (.bool !b)) w :=
 e0n ho hp hq w (run_eqGuard_agg w .neq 68 p q _ _ Tryz.eqGuardType68) (by
  show (do pure (Value.bool (!(← Op.equal 68 (.agg (cw 4 (kN x)).toArray) (.agg (cw 4 (kN y)).toArray))))).run Tryz.prog w = _
  simp only [Sem.run_bind, t0N x y hb w, Result.andThen_ok]
  rfl)
theorem z0O (w : World) : Calls Tryz.prog 91 #[] w fun e w' => e = .returned (.agg (cw 4 (kN 0) ++ (cw 4 (kN 1) ++ cw 4 (kN 0))).toArray) ∧ Fr Nob w w' := m0T w
theorem t0Q (x1 y1 z1 x2 y2 z2 : K) (hb1 : decide (z1 = 0) = false) (hb2 : decide (z2 = 0) = false) (u v u2 v2 : K) (eu : y2 * z1 = u) (ev : x2 * z1 = v) (eu2 : y1 * z2 = u2) (ev2 : x1 * z2 = v2) (hv : decide (v = v2) = true) (hu : decide (u = u2) = false) (w : World) : Calls Tryz.prog 64 #[rpV x1 y1 z1, rpV x2 y2 z2] w fun e w' => e = .returned (rpV 0 1 0) ∧ Fr Nob w w' := by
 have HB1 := Lib.hid hb1
 have HB2 := Lib.hid hb2
 clear hb1 hb2
 have Hu := Lib.hid eu
 have Hv := Lib.hid ev
 have Hu2 := Lib.hid eu2
 have Hv2 := Lib.hid ev2
 clear eu ev eu2 ev2
 have HV := Lib.hid hv
 clear hv
 have HU := Lib.hid hu
 clear hu
 unfold rpV rpL
 have st0 := St.start Nob w
 go_enter Tryz.func64, Tryz.ntmps64
 go_wp2_with (with_reducible refine wSk 2 ?_)
 refine a0l st0 rfl rfl rfl (cw 4 (kN x1) ++ (cw 4 (kN y1) ++ cw 4 (kN z1))) rfl ?_
 intro g2 w1 st1
 clear st0
 go_wp2_with (with_reducible refine wSk 3 ?_)
 refine a0l st1 rfl rfl rfl (cw 4 (kN x2) ++ (cw 4 (kN y2) ++ cw 4 (kN z2))) rfl ?_
 intro g3 w2 st2
 clear st1
 go_wp2_with (with_reducible refine wSk 4 ?_)
 refine a0a st2 rfl rfl (z := zAc) ap11 (cw 12 0) ap9 ?_
 intro g4 w3 st3
 clear st2
 go_wp2_with (with_reducible refine wSk 16 ?_)
 refine a0m st3 0 rfl rfl rfl Tryz.underlying76 rfl rfl ap11 ?_
 go_wp2_with fail
 refine (b0N x1 y1 z1 false HB1.out _).mono ?_
 rintro e' w4 ⟨rfl, hf4⟩
 have st4 := st3.keep hf4
 clear st3 hf4
 go_wp2_with (with_reducible refine wSk 20 ?_)
 refine a0m st4 1 rfl rfl rfl Tryz.underlying76 rfl rfl ap11 ?_
 go_wp2_with fail
 refine (b0N x2 y2 z2 false HB2.out _).mono ?_
 rintro e' w5 ⟨rfl, hf5⟩
 have st5 := st4.keep hf5
 clear st4 hf5
 go_wp2_with fail
 refine wp_region_noPanic ?_
 refine a0f st5 7 [.o 6, .w 1, .t 2, .w 3, .t 4, .c 0, .c 5, .j 6] (.m 7 .nil) ap11 ap11 (fun _ _ _ _ _ h => h) ?_
 clear st5
 refine b0p rfl rfl rfl f0w (cw 4 0) rfl ?_
 try simp only [clL]
 refine a0p rfl rfl apX ?_
 try simp only [clL]
 refine a0d rfl rfl rfl (fun _ => rfl) (cw 4 (kN y2)) (fun wx hS => St.rangeL hS 1 rfl 4 _ (l0q _ _ _)) Tryz.underlying68 rfl ap11 ?_
 try simp only [clL]
 refine a0p rfl rfl apX ?_
 try simp only [clL]
 refine a0d rfl rfl rfl (fun _ => rfl) (cw 4 (kN z1)) (fun wx hS => St.rangeL hS 0 rfl 8 _ (f0c _ _ _)) Tryz.underlying68 rfl ap11 ?_
 try simp only [clL]
 refine a0c rfl rfl rfl Tryz.call122 (fun w hS hR => a0H _) (fun _ => rfl) ?_
 try simp only [clL]
 refine a0c rfl rfl rfl Tryz.call54 (fun w hS hR => d0P y2 z1 u Hu.out _) (fun _ => rfl) ?_
 try simp only [clL]
 refine b0q List.mem_cons_self fun g6 => ?_
 simp only [upd, reduceIte]
 refine a0v fun xq w6 st6 hR => ?_
 try dsimp only
 clear hR xq
 refine a0r rfl rfl ?_
 refine a0h st6 3 rfl rfl rfl rfl ap10 ap11 (a0g _ _) ?_
 intro w7 st7
 repeat (first | simp only [List.cons_append] at st7 | simp only [List.nil_append] at st7 | simp only [List.set_cons_succ] at st7 | simp only [List.set_cons_zero] at st7)
 clear st6
 try simp only [Act.put]
 refine a0j ?_
 refine NoPanic.normal ?_
 go_wp2_with fail
 refine wp_region_noPanic ?_
 refine a0f st7 7 [.o 6, .w 1, .t 2, .w 3, .t 4, .c 0, .c 5, .j 6] (.m 7 .nil) ap11 ap11 (fun _ _ _ _ _ h => h) ?_
 clear st7
 refine b0p rfl rfl rfl f0w (cw 4 0) rfl ?_
 try simp only [clL]
 refine a0p rfl rfl apX ?_
 try simp only [clL]
 refine a0d rfl rfl rfl (fun _ => rfl) (cw 4 (kN x2)) (fun wx hS => St.rangeL hS 1 rfl 0 _ (i0Z _ _ _)) Tryz.underlying68 rfl ap11 ?_
 try simp only [clL]
 refine a0p rfl rfl apX ?_
 try simp only [clL]
 refine a0d rfl rfl rfl (fun _ => rfl) (cw 4 (kN z1)) (fun wx hS => St.rangeL hS 0 rfl 8 _ (f0c _ _ _)) Tryz.underlying68 rfl ap11 ?_
 try simp only [clL]
 refine a0c rfl rfl rfl Tryz.call122 (fun w hS hR => a0H _) (fun _ => rfl) ?_
 try simp only [clL]
 refine a0c rfl rfl rfl Tryz.call54 (fun w hS hR => d0P x2 z1 v Hv.out _) (fun _ => rfl) ?_
 try simp only [clL]
 refine b0q List.mem_cons_self fun g7 => ?_
 simp only [upd, reduceIte]
 refine a0v fun xq w8 st8 hR => ?_
 try dsimp only
 clear hR xq
 refine a0r rfl rfl ?_
 refine a0h st8 4 rfl rfl rfl rfl ap10 ap11 (a0g _ _) ?_
 intro w9 st9
 repeat (first | simp only [List.cons_append] at st9 | simp only [List.nil_append] at st9 | simp only [List.set_cons_succ] at st9 | simp only [List.set_cons_zero] at st9)
 clear st8
 try simp only [Act.put]
 refine a0j ?_
 refine NoPanic.normal ?_
 go_wp2_with fail
 refine wp_region_noPanic ?_
 refine a0f st9 7 [.o 6, .w 1, .t 2, .w 3, .t 4, .c 0, .c 5, .j 6] (.m 7 .nil) ap11 ap11 (fun _ _ _ _ _ h => h) ?_
 clear st9
 refine b0p rfl rfl rfl f0w (cw 4 0) rfl ?_
 try simp only [clL]
 refine a0p rfl rfl apX ?_
 try simp only [clL]
 refine a0d rfl rfl rfl (fun _ => rfl) (cw 4 (kN y1)) (fun wx hS => St.rangeL hS 0 rfl 4 _ (l0q _ _ _)) Tryz.underlying68 rfl ap11 ?_
 try simp only [clL]
 refine a0p rfl rfl apX ?_
 try simp only [clL]
 refine a0d rfl rfl rfl (fun _ => rfl) (cw 4 (kN z2)) (fun wx hS => St.rangeL hS 1 rfl 8 _ (f0c _ _ _)) Tryz.underlying68 rfl ap11 ?_
 try simp only [clL]
 refine a0c rfl rfl rfl Tryz.call122 (fun w hS hR => a0H _) (fun _ => rfl) ?_
 try simp only [clL]
 refine a0c rfl rfl rfl Tryz.call54 (fun w hS hR => d0P y1 z2 u2 Hu2.out _) (fun _ => rfl) ?_
 try simp only [clL]
 refine b0q List.mem_cons_self fun g8 => ?_
 simp only [upd, reduceIte]
 refine a0v fun xq w10 st10 hR => ?_
 try dsimp only
 clear hR xq
 refine a0r rfl rfl ?_
 refine a0h st10 5 rfl rfl rfl rfl ap10 ap11 (a0g _ _) ?_
 intro w11 st11
 repeat (first | simp only [List.cons_append] at st11 | simp only [List.nil_append] at st11 | simp only [List.set_cons_succ] at st11 | simp only [List.set_cons_zero] at st11)
 clear st10
 try simp only [Act.put]
 refine a0j ?_
 refine NoPanic.normal ?_
 go_wp2_with fail
 refine wp_region_noPanic ?_
 refine a0f st11 7 [.o 6, .w 1, .t 2, .w 3, .t 4, .c 0, .c 5, .j 6] (.m 7 .nil) ap11 ap11 (fun _ _ _ _ _ h => h) ?_
 clear st11
 refine b0p rfl rfl rfl f0w (cw 4 0) rfl ?_
 try simp only [clL]
 refine a0p rfl rfl apX ?_
 try simp only [clL]
 refine a0d rfl rfl rfl (fun _ => rfl) (cw 4 (kN x1)) (fun wx hS => St.rangeL hS 0 rfl 0 _ (i0Z _ _ _)) Tryz.underlying68 rfl ap11 ?_
 try simp only [clL]
 refine a0p rfl rfl apX ?_
 try simp only [clL]
 refine a0d rfl rfl rfl (fun _ => rfl) (cw 4 (kN z2)) (fun wx hS => St.rangeL hS 1 rfl 8 _ (f0c _ _ _)) Tryz.underlying68 rfl ap11 ?_
 try simp only [clL]
 refine a0c rfl rfl rfl Tryz.call122 (fun w hS hR => a0H _) (fun _ => rfl) ?_
 try simp only [clL]
 refine a0c rfl rfl rfl Tryz.call54 (fun w hS hR => d0P x1 z2 v2 Hv2.out _) (fun _ => rfl) ?_
 try simp only [clL]
 refine b0q List.mem_cons_self fun g9 => ?_
 simp only [upd, reduceIte]
 refine a0v fun xq w12 st12 hR => ?_
 try dsimp only
 clear hR xq
 refine a0r rfl rfl ?_
 refine a0h st12 6 rfl rfl rfl rfl ap10 ap11 (a0g _ _) ?_
 intro w13 st13
 repeat (first | simp only [List.cons_append] at st13 | simp only [List.nil_append] at st13 | simp only [List.set_cons_succ] at st13 | simp only [List.set_cons_zero] at st13)
 clear st12
 try simp only [Act.put]
 refine a0j ?_
 refine NoPanic.normal ?_
 go_wp2_with (with_reducible refine wSk 48 ?_)
 refine a0i st13 4 rfl rfl rfl Tryz.underlying68 rfl ap11 ?_
 go_wp2_with (with_reducible refine wSk 49 ?_)
 refine a0i st13 6 rfl rfl rfl Tryz.underlying68 rfl ap11 ?_
 go_wp2_with (with_reducible refine wSk 50 ?_)
 refine c0Q rfl (e0p v v2 rfl rfl rfl HV.out _) ?_
 go_wp2_with (with_reducible refine wSk 51 ?_)
 refine a0i st13 3 rfl rfl rfl Tryz.underlying68 rfl ap11 ?_
 go_wp2_with (with_reducible refine wSk 52 ?_)
 refine a0i st13 5 rfl rfl rfl Tryz.underlying68 rfl ap11 ?_
 go_wp2_with (with_reducible refine wSk 53 ?_)
 refine c0Q rfl (m0U u u2 rfl rfl rfl HU.out _) ?_
 go_wp2_with fail
 refine (z0O _).mono ?_
 rintro e' w14 ⟨rfl, hf14⟩
 have st14 := st13.keep hf14
 clear st13 hf14
 go_wp2_with (with_reducible refine wSn ?_)
 refine a0b st14 2 rfl rfl rfl rfl rfl ap10 ap11 (a0Q _ _ _) ?_
 intro w15 st15
 clear st14
 have hr := st15.at 2 rfl
 have hfr := st15.fr
 clear st15
 go_wp2_with fail
 exact bodyPost_ret (a0t rfl rfl hr Tryz.underlying76 rfl ap11) rfl ⟨rfl, hfr⟩
theorem t0R (x y z X Y Z : K) (w : World) (h : Calls Tryz.prog 132 #[rpV x y z] w fun e w' => e = .returned (rpV X Y Z) ∧ Fr Nob w w') : Calls Tryz.prog 132 #[.agg (cw 4 (kN x) ++ (cw 4 (kN y) ++ cw 4 (kN z))).toArray] w fun e w' => e = .returned (.agg (cw 4 (kN X) ++ (cw 4 (kN Y) ++ cw 4 (kN Z))).toArray) ∧ Fr Nob w w' := h
theorem t0S (x1 y1 z1 x2 y2 z2 : K) (hb1 : decide (z1 = 0) = false) (hb2 : decide (z2 = 0) = false) (u v u2 v2 : K) (eu : y2 * z1 = u) (ev : x2 * z1 = v) (eu2 : y1 * z2 = u2) (ev2 : x1 * z2 = v2) (hv : decide (v = v2) = true) (hu : decide (u = u2) = true) (hz : decide (u = 0) = false) (X Y Z : K) (hdb : ∀ wx, Calls Tryz.prog 132 #[rpV x1 y1 z1] wx fun e w' => e = .returned (rpV X Y Z) ∧ Fr Nob wx w') (w : World) : Calls Tryz.prog 64 #[rpV x1 y1 z1, rpV x2 y2 z2] w fun e w' => e = .returned (rpV X Y Z) ∧ Fr Nob w w' := by
 have HB1 := Lib.hid hb1
 have HB2 := Lib.hid hb2
 clear hb1 hb2
 have Hu := Lib.hid eu
 have Hv := Lib.hid ev
 have Hu2 := Lib.hid eu2
 have Hv2 := Lib.hid ev2
 clear eu ev eu2 ev2
 have HV := Lib.hid hv
 clear hv
 have HU := Lib.hid hu
 clear hu
 have HZ := Lib.hid hz
 have HDB := Lib.hid hdb
 clear hz hdb
 unfold rpV rpL
 have st0 := St.start Nob w
 go_enter Tryz.func64, Tryz.ntmps64
 go_wp2_with (with_reducible refine wSk 2 ?_)
 refine a0l st0 rfl rfl rfl (cw 4 (kN x1) ++ (cw 4 (kN y1) ++ cw 4 (kN z1))) rfl ?_
 intro g2 w1 st1
 clear st0
 go_wp2_with (with_reducible refine wSk 3 ?_)
 refine a0l st1 rfl rfl rfl (cw 4 (kN x2) ++ (cw 4 (kN y2) ++ cw 4 (kN z2))) rfl ?_
 intro g3 w2 st2
 clear st1
 go_wp2_with (with_reducible refine wSk 4 ?_)
 refine a0a st2 rfl rfl (z := zAc) ap11 (cw 12 0) ap9 ?_
 intro g4 w3 st3
 clear st2
 go_wp2_with (with_reducible refine wSk 16 ?_)
 refine a0m st3 0 rfl rfl rfl Tryz.underlying76 rfl rfl ap11 ?_
 go_wp2_with fail
 refine (b0N x1 y1 z1 false HB1.out _).mono ?_
 rintro e' w4 ⟨rfl, hf4⟩
 have st4 := st3.keep hf4
 clear st3 hf4
 go_wp2_with (with_reducible refine wSk 20 ?_)
 refine a0m st4 1 rfl rfl rfl Tryz.underlying76 rfl rfl ap11 ?_
 go_wp2_with fail
 refine (b0N x2 y2 z2 false HB2.out _).mono ?_
 rintro e' w5 ⟨rfl, hf5⟩
 have st5 := st4.keep hf5
 clear st4 hf5
 go_wp2_with fail
 refine wp_region_noPanic ?_
 refine a0f st5 7 [.o 6, .w 1, .t 2, .w 3, .t 4, .c 0, .c 5, .j 6] (.m 7 .nil) ap11 ap11 (fun _ _ _ _ _ h => h) ?_
 clear st5
 refine b0p rfl rfl rfl f0w (cw 4 0) rfl ?_
 try simp only [clL]
 refine a0p rfl rfl apX ?_
 try simp only [clL]
 refine a0d rfl rfl rfl (fun _ => rfl) (cw 4 (kN y2)) (fun wx hS => St.rangeL hS 1 rfl 4 _ (l0q _ _ _)) Tryz.underlying68 rfl ap11 ?_
 try simp only [clL]
 refine a0p rfl rfl apX ?_
 try simp only [clL]
 refine a0d rfl rfl rfl (fun _ => rfl) (cw 4 (kN z1)) (fun wx hS => St.rangeL hS 0 rfl 8 _ (f0c _ _ _)) Tryz.underlying68 rfl ap11 ?_
 try simp only [clL]
 refine a0c rfl rfl rfl Tryz.call122 (fun w hS hR => a0H _) (fun _ => rfl) ?_
 try simp only [clL]
 refine a0c rfl rfl rfl Tryz.call54 (fun w hS hR => d0P y2 z1 u Hu.out _) (fun _ => rfl) ?_
 try simp only [clL]
 refine b0q List.mem_cons_self fun g6 => ?_
 simp only [upd, reduceIte]
 refine a0v fun xq w6 st6 hR => ?_
 try dsimp only
 clear hR xq
 refine a0r rfl rfl ?_
 refine a0h st6 3 rfl rfl rfl rfl ap10 ap11 (a0g _ _) ?_
 intro w7 st7
 repeat (first | simp only [List.cons_append] at st7 | simp only [List.nil_append] at st7 | simp only [List.set_cons_succ] at st7 | simp only [List.set_cons_zero] at st7)
 clear st6
 try simp only [Act.put]
 refine a0j ?_
 refine NoPanic.normal ?_
 go_wp2_with fail
 refine wp_region_noPanic ?_
 refine a0f st7 7 [.o 6, .w 1, .t 2, .w 3, .t 4, .c 0, .c 5, .j 6] (.m 7 .nil) ap11 ap11 (fun _ _ _ _ _ h => h) ?_
 clear st7
 refine b0p rfl rfl rfl f0w (cw 4 0) rfl ?_
 try simp only [clL]
 refine a0p rfl rfl apX ?_
 try simp only [clL]
 refine a0d rfl rfl rfl (fun _ => rfl) (cw 4 (kN x2)) (fun wx hS => St.rangeL hS 1 rfl 0 _ (i0Z _ _ _)) Tryz.underlying68 rfl ap11 ?_
 try simp only [clL]
 refine a0p rfl rfl apX ?_
 try simp only [clL]
 refine a0d rfl rfl rfl (fun _ => rfl) (cw 4 (kN z1)) (fun wx hS => St.rangeL hS 0 rfl 8 _ (f0c _ _ _)) Tryz.underlying68 rfl ap11 ?_
 try simp only [clL]
 refine a0c rfl rfl rfl Tryz.call122 (fun w hS hR => a0H _) (fun _ => rfl) ?_
 try simp only [clL]
 refine a0c rfl rfl rfl Tryz.call54 (fun w hS hR => d0P x2 z1 v Hv.out _) (fun _ => rfl) ?_
 try simp only [clL]
 refine b0q List.mem_cons_self fun g7 => ?_
 simp only [upd, reduceIte]
 refine a0v fun xq w8 st8 hR => ?_
 try dsimp only
 clear hR xq
 refine a0r rfl rfl ?_
 refine a0h st8 4 rfl rfl rfl rfl ap10 ap11 (a0g _ _) ?_
 intro w9 st9
 repeat (first | simp only [List.cons_append] at st9 | simp only [List.nil_append] at st9 | simp only [List.set_cons_succ] at st9 | simp only [List.set_cons_zero] at st9)
 clear st8
 try simp only [Act.put]
 refine a0j ?_
 refine NoPanic.normal ?_
 go_wp2_with fail
 refine wp_region_noPanic ?_
 refine a0f st9 7 [.o 6, .w 1, .t 2, .w 3, .t 4, .c 0, .c 5, .j 6] (.m 7 .nil) ap11 ap11 (fun _ _ _ _ _ h => h) ?_
 clear st9
 refine b0p rfl rfl rfl f0w (cw 4 0) rfl ?_
 try simp only [clL]
 refine a0p rfl rfl apX ?_
 try simp only [clL]
 refine a0d rfl rfl rfl (fun _ => rfl) (cw 4 (kN y1)) (fun wx hS => St.rangeL hS 0 rfl 4 _ (l0q _ _ _)) Tryz.underlying68 rfl ap11 ?_
 try simp only [clL]
 refine a0p rfl rfl apX ?_
 try simp only [clL]
 refine a0d rfl rfl rfl (fun _ => rfl) (cw 4 (kN z2)) (fun wx hS => St.rangeL hS 1 rfl 8 _ (f0c _ _ _)) Tryz.underlying68 rfl ap11 ?_
 try simp only [clL]
 refine a0c rfl rfl rfl Tryz.call122 (fun w hS hR => a0H _) (fun _ => rfl) ?_
 try simp only [clL]
 refine a0c rfl rfl rfl Tryz.call54 (fun w hS hR => d0P y1 z2 u2 Hu2.out _) (fun _ => rfl) ?_
 try simp only [clL]
 refine b0q List.mem_cons_self fun g8 => ?_
 simp only [upd, reduceIte]
 refine a0v fun xq w10 st10 hR => ?_
 try dsimp only
 clear hR xq
 refine a0r rfl rfl ?_
 refine a0h st10 5 rfl rfl rfl rfl ap10 ap11 (a0g _ _) ?_
 intro w11 st11
 repeat (first | simp only [List.cons_append] at st11 | simp only [List.nil_append] at st11 | simp only [List.set_cons_succ] at st11 | simp only [List.set_cons_zero] at st11)
 clear st10
 try simp only [Act.put]
 refine a0j ?_
 refine NoPanic.normal ?_
 go_wp2_with fail
 refine wp_region_noPanic ?_
 refine a0f st11 7 [.o 6, .w 1, .t 2, .w 3, .t 4, .c 0, .c 5, .j 6] (.m 7 .nil) ap11 ap11 (fun _ _ _ _ _ h => h) ?_
 clear st11
 refine b0p rfl rfl rfl f0w (cw 4 0) rfl ?_
 try simp only [clL]
 refine a0p rfl rfl apX ?_
 try simp only [clL]
 refine a0d rfl rfl rfl (fun _ => rfl) (cw 4 (kN x1)) (fun wx hS => St.rangeL hS 0 rfl 0 _ (i0Z _ _ _)) Tryz.underlying68 rfl ap11 ?_
 try simp only [clL]
 refine a0p rfl rfl apX ?_
 try simp only [clL]
 refine a0d rfl rfl rfl (fun _ => rfl) (cw 4 (kN z2)) (fun wx hS => St.rangeL hS 1 rfl 8 _ (f0c _ _ _)) Tryz.underlying68 rfl ap11 ?_
 try simp only [clL]
 refine a0c rfl rfl rfl Tryz.call122 (fun w hS hR => a0H _) (fun _ => rfl) ?_
 try simp only [clL]
 refine a0c rfl rfl rfl Tryz.call54 (fun w hS hR => d0P x1 z2 v2 Hv2.out _) (fun _ => rfl) ?_
 try simp only [clL]
 refine b0q List.mem_cons_self fun g9 => ?_
 simp only [upd, reduceIte]
 refine a0v fun xq w12 st12 hR => ?_
 try dsimp only
 clear hR xq
 refine a0r rfl rfl ?_
 refine a0h st12 6 rfl rfl rfl rfl ap10 ap11 (a0g _ _) ?_
 intro w13 st13
 repeat (first | simp only [List.cons_append] at st13 | simp only [List.nil_append] at st13 | simp only [List.set_cons_succ] at st13 | simp only [List.set_cons_zero] at st13)
 clear st12
 try simp only [Act.put]
 refine a0j ?_
 refine NoPanic.normal ?_
 go_wp2_with (with_reducible refine wSk 48 ?_)
 refine a0i st13 4 rfl rfl rfl Tryz.underlying68 rfl ap11 ?_
 go_wp2_with (with_reducible refine wSk 49 ?_)
 refine a0i st13 6 rfl rfl rfl Tryz.underlying68 rfl ap11 ?_
 go_wp2_with (with_reducible refine wSk 50 ?_)
 refine c0Q rfl (e0p v v2 rfl rfl rfl HV.out _) ?_
 go_wp2_with (with_reducible refine wSk 51 ?_)
 refine a0i st13 3 rfl rfl rfl Tryz.underlying68 rfl ap11 ?_
 go_wp2_with (with_reducible refine wSk 52 ?_)
 refine a0i st13 5 rfl rfl rfl Tryz.underlying68 rfl ap11 ?_
 go_wp2_with (with_reducible refine wSk 53 ?_)
 refine c0Q rfl (m0U u u2 rfl rfl rfl HU.out _) ?_
 go_wp2_with (with_reducible refine wSk 55 ?_)
 refine B0R rfl ?_
 refine a0i st13 3 rfl rfl rfl Tryz.underlying68 rfl ap11 ?_
 go_wp2_with fail
 refine (B0Q u false HZ.out _).mono ?_
 rintro e' w14 ⟨rfl, hf14⟩
 have st14 := st13.keep hf14
 clear st13 hf14
 go_wp2_with (with_reducible refine wSk 59 ?_)
 refine a0m st14 0 rfl rfl rfl Tryz.underlying76 rfl rfl ap11 ?_
 go_wp2_with fail
 refine (t0R x1 y1 z1 X Y Z _ (HDB.out _)).mono ?_
 rintro e' w15 ⟨rfl, hf15⟩
 have st15 := st14.keep hf15
 clear st14 hf15
 go_wp2_with (with_reducible refine wSn ?_)
 refine a0b st15 2 rfl rfl rfl rfl rfl ap10 ap11 (a0Q _ _ _) ?_
 intro w16 st16
 clear st15
 have hr := st16.at 2 rfl
 have hfr := st16.fr
 clear st16
 go_wp2_with fail
 exact bodyPost_ret (a0t rfl rfl hr Tryz.underlying76 rfl ap11) rfl ⟨rfl, hfr⟩
theorem z0P (x1 y1 z1 x2 y2 z2 : K) (hb1 : decide (z1 = 0) = false) (hb2 : decide (z2 = 0) = false) (u v u2 v2 d ee ww e2 e3 t1 t2 t3 t4 t5 t X s1 s2 s3 s4 Y Z : K) (eu : y2 * z1 = u) (ev : x2 * z1 = v) (eu2 : y1 * z2 = u2) (ev2 : x1 * z2 = v2) (ed : u - u2 = d) (eee : v - v2 = ee) (eww : z1 * z2 = ww) (ee2 : ee * ee = e2) (ee3 : e2 * ee = e3) (et1 : d * d = t1) (et2 : t1 * ww = t2) (et3 : t2 - e3 = t3) (et4 : v2 + v2 = t4) (et5 : t4 * e2 = t5) (et : t3 - t5 = t) (eX : ee * t = X) (es1 : v2 * e2 = s1) (es2 : s1 - t = s2) (es3 : d * s2 = s3) (es4 : u2 * e3 = s4) (eY : s3 - s4 = Y) (eZ : e3 * ww = Z) (hv : decide (v = v2) = false) (w : World) : Calls Tryz.prog 64 #[rpV x1 y1 z1, rpV x2 y2 z2] w fun e w' => e = .returned (rpV X Y Z) ∧ Fr Nob w w' := by
 have HB1 := Lib.hid hb1
 have HB2 := Lib.hid hb2
 clear hb1 hb2
 have Hu := Lib.hid eu
 have Hv := Lib.hid ev
 have Hu2 := Lib.hid eu2
 have Hv2 := Lib.hid ev2
 have Hd := Lib.hid ed
 have Hee := Lib.hid eee
 have Hww := Lib.hid eww
 have He2 := Lib.hid ee2
 have He3 := Lib.hid ee3
 have Ht1 := Lib.hid et1
 have Ht2 := Lib.hid et2
 have Ht3 := Lib.hid et3
 have Ht4 := Lib.hid et4
 have Ht5 := Lib.hid et5
 have Ht := Lib.hid et
 have HX := Lib.hid eX
 have Hs1 := Lib.hid es1
 have Hs2 := Lib.hid es2
 have Hs3 := Lib.hid es3
 have Hs4 := Lib.hid es4
 have HY := Lib.hid eY
 have HZ := Lib.hid eZ
 clear eu ev eu2 ev2 ed eee eww ee2 ee3 et1 et2 et3 et4 et5 et eX es1 es2 es3 es4 eY eZ
 have HV := Lib.hid hv
 clear hv
 unfold rpV rpL
 have st0 := St.start Nob w
 go_enter Tryz.func64, Tryz.ntmps64
 go_wp2_with (with_reducible refine wSk 2 ?_)
 refine a0l st0 rfl rfl rfl (cw 4 (kN x1) ++ (cw 4 (kN y1) ++ cw 4 (kN z1))) rfl ?_
 intro g2 w1 st1
 clear st0
 go_wp2_with (with_reducible refine wSk 3 ?_)
 refine a0l st1 rfl rfl rfl (cw 4 (kN x2) ++ (cw 4 (kN y2) ++ cw 4 (kN z2))) rfl ?_
 intro g3 w2 st2
 clear st1
 go_wp2_with (with_reducible refine wSk 4 ?_)
 refine a0a st2 rfl rfl (z := zAc) ap11 (cw 12 0) ap9 ?_
 intro g4 w3 st3
 clear st2
 go_wp2_with (with_reducible refine wSk 16 ?_)
 refine a0m st3 0 rfl rfl rfl Tryz.underlying76 rfl rfl ap11 ?_
 go_wp2_with fail
 refine (b0N x1 y1 z1 false HB1.out _).mono ?_
 rintro e' w4 ⟨rfl, hf4⟩
 have st4 := st3.keep hf4
 clear st3 hf4
 go_wp2_with (with_reducible refine wSk 20 ?_)
 refine a0m st4 1 rfl rfl rfl Tryz.underlying76 rfl rfl ap11 ?_
 go_wp2_with fail
 refine (b0N x2 y2 z2 false HB2.out _).mono ?_
 rintro e' w5 ⟨rfl, hf5⟩
 have st5 := st4.keep hf5
 clear st4 hf5
 go_wp2_with fail
 refine wp_region_noPanic ?_
 refine a0f st5 7 [.o 6, .w 1, .t 2, .w 3, .t 4, .c 0, .c 5, .j 6] (.m 7 .nil) ap11 ap11 (fun _ _ _ _ _ h => h) ?_
 clear st5
 refine b0p rfl rfl rfl f0w (cw 4 0) rfl ?_
 try simp only [clL]
 refine a0p rfl rfl apX ?_
 try simp only [clL]
 refine a0d rfl rfl rfl (fun _ => rfl) (cw 4 (kN y2)) (fun wx hS => St.rangeL hS 1 rfl 4 _ (l0q _ _ _)) Tryz.underlying68 rfl ap11 ?_
 try simp only [clL]
 refine a0p rfl rfl apX ?_
 try simp only [clL]
 refine a0d rfl rfl rfl (fun _ => rfl) (cw 4 (kN z1)) (fun wx hS => St.rangeL hS 0 rfl 8 _ (f0c _ _ _)) Tryz.underlying68 rfl ap11 ?_
 try simp only [clL]
 refine a0c rfl rfl rfl Tryz.call122 (fun w hS hR => a0H _) (fun _ => rfl) ?_
 try simp only [clL]
 refine a0c rfl rfl rfl Tryz.call54 (fun w hS hR => d0P y2 z1 u Hu.out _) (fun _ => rfl) ?_
 try simp only [clL]
 refine b0q List.mem_cons_self fun g6 => ?_
 simp only [upd, reduceIte]
 refine a0v fun xq w6 st6 hR => ?_
 try dsimp only
 clear hR xq
 refine a0r rfl rfl ?_
 refine a0h st6 3 rfl rfl rfl rfl ap10 ap11 (a0g _ _) ?_
 intro w7 st7
 repeat (first | simp only [List.cons_append] at st7 | simp only [List.nil_append] at st7 | simp only [List.set_cons_succ] at st7 | simp only [List.set_cons_zero] at st7)
 clear st6
 try simp only [Act.put]
 refine a0j ?_
 refine NoPanic.normal ?_
 go_wp2_with fail
 refine wp_region_noPanic ?_
 refine a0f st7 7 [.o 6, .w 1, .t 2, .w 3, .t 4, .c 0, .c 5, .j 6] (.m 7 .nil) ap11 ap11 (fun _ _ _ _ _ h => h) ?_
 clear st7
 refine b0p rfl rfl rfl f0w (cw 4 0) rfl ?_
 try simp only [clL]
 refine a0p rfl rfl apX ?_
 try simp only [clL]
 refine a0d rfl rfl rfl (fun _ => rfl) (cw 4 (kN x2)) (fun wx hS => St.rangeL hS 1 rfl 0 _ (i0Z _ _ _)) Tryz.underlying68 rfl ap11 ?_
 try simp only [clL]
 refine a0p rfl rfl apX ?_
 try simp only [clL]
 refine a0d rfl rfl rfl (fun _ => rfl) (cw 4 (kN z1)) (fun wx hS => St.rangeL hS 0 rfl 8 _ (f0c _ _ _)) Tryz.underlying68 rfl ap11 ?_
 try simp only [clL]
 refine a0c rfl rfl rfl Tryz.call122 (fun w hS hR => a0H _) (fun _ => rfl) ?_
 try simp only [clL]
 refine a0c rfl rfl rfl Tryz.call54 (fun w hS hR => d0P x2 z1 v Hv.out _) (fun _ => rfl) ?_
 try simp only [clL]
 refine b0q List.mem_cons_self fun g7 => ?_
 simp only [upd, reduceIte]
 refine a0v fun xq w8 st8 hR => ?_
 try dsimp only
 clear hR xq
 refine a0r rfl rfl ?_
 refine a0h st8 4 rfl rfl rfl rfl ap10 ap11 (a0g _ _) ?_
 intro w9 st9
 repeat (first | simp only [List.cons_append] at st9 | simp only [List.nil_append] at st9 | simp only [List.set_cons_succ] at st9 | simp only [List.set_cons_zero] at st9)
 clear st8
 try simp only [Act.put]
 refine a0j ?_
 refine NoPanic.normal ?_
 go_wp2_with fail
 refine wp_region_noPanic ?_
 refine a0f st9 7 [.o 6, .w 1, .t 2, .w 3, .t 4, .c 0, .c 5, .j 6] (.m 7 .nil) ap11 ap11 (fun _ _ _ _ _ h => h) ?_
 clear st9
 refine b0p rfl rfl rfl f0w (cw 4 0) rfl ?_
 try simp only [clL]
 refine a0p rfl rfl apX ?_
 try simp only [clL]
 refine a0d rfl rfl rfl (fun _ => rfl) (cw 4 (kN y1)) (fun wx hS => St.rangeL hS 0 rfl 4 _ (l0q _ _ _)) Tryz.underlying68 rfl ap11 ?_
 try simp only [clL]
 refine a0p rfl rfl apX ?_
 try simp only [clL]
 refine a0d rfl rfl rfl (fun _ => rfl) (cw 4 (kN z2)) (fun wx hS => St.rangeL hS 1 rfl 8 _ (f0c _ _ _)) Tryz.underlying68 rfl ap11 ?_
 try simp only [clL]
 refine a0c rfl rfl rfl Tryz.call122 (fun w hS hR => a0H _) (fun _ => rfl) ?_
 try simp only [clL]
 refine a0c rfl rfl rfl Tryz.call54 (fun w hS hR => d0P y1 z2 u2 Hu2.out _) (fun _ => rfl) ?_
 try simp only [clL]
 refine b0q List.mem_cons_self fun g8 => ?_
 simp only [upd, reduceIte]
 refine a0v fun xq w10 st10 hR => ?_
 try dsimp only
 clear hR xq
 refine a0r rfl rfl ?_
 refine a0h st10 5 rfl rfl rfl rfl ap10 ap11 (a0g _ _) ?_
 intro w11 st11
 repeat (first | simp only [List.cons_append] at st11 | simp only [List.nil_append] at st11 | simp only [List.set_cons_succ] at st11 | simp only [List.set_cons_zero] at st11)
 clear st10
 try simp only [Act.put]
 refine a0j ?_
 refine NoPanic.normal ?_
 go_wp2_with fail
 refine wp_region_noPanic ?_
 refine a0f st11 7 [.o 6, .w 1, .t 2, .w 3, .t 4, .c 0, .c 5, .j 6] (.m 7 .nil) ap11 ap11 (fun _ _ _ _ _ h => h) ?_
 clear st11
 refine b0p rfl rfl rfl f0w (cw 4 0) rfl ?_
 try simp only [clL]
 refine a0p rfl rfl apX ?_
 try simp only [clL]
 refine a0d rfl rfl rfl (fun _ => rfl) (cw 4 (kN x1)) (fun wx hS => St.rangeL hS 0 rfl 0 _ (i0Z _ _ _)) Tryz.underlying68 rfl ap11 ?_
 try simp only [clL]
 refine a0p rfl rfl apX ?_
 try simp only [clL]
 refine a0d rfl rfl rfl (fun _ => rfl) (cw 4 (kN z2)) (fun wx hS => St.rangeL hS 1 rfl 8 _ (f0c _ _ _)) Tryz.underlying68 rfl ap11 ?_
 try simp only [clL]
 refine a0c rfl rfl rfl Tryz.call122 (fun w hS hR => a0H _) (fun _ => rfl) ?_
 try simp only [clL]
 refine a0c rfl rfl rfl Tryz.call54 (fun w hS hR => d0P x1 z2 v2 Hv2.out _) (fun _ => rfl) ?_
 try simp only [clL]
 refine b0q List.mem_cons_self fun g9 => ?_
 simp only [upd, reduceIte]
 refine a0v fun xq w12 st12 hR => ?_
 try dsimp only
 clear hR xq
 refine a0r rfl rfl ?_
 refine a0h st12 6 rfl rfl rfl rfl ap10 ap11 (a0g _ _) ?_
 intro w13 st13
 repeat (first | simp only [List.cons_append] at st13 | simp only [List.nil_append] at st13 | simp only [List.set_cons_succ] at st13 | simp only [List.set_cons_zero] at st13)
 clear st12
 try simp only [Act.put]
 refine a0j ?_
 refine NoPanic.normal ?_
 go_wp2_with (with_reducible refine wSk 48 ?_)
 refine a0i st13 4 rfl rfl rfl Tryz.underlying68 rfl ap11 ?_
 go_wp2_with (with_reducible refine wSk 49 ?_)
 refine a0i st13 6 rfl rfl rfl Tryz.underlying68 rfl ap11 ?_
 go_wp2_with (with_reducible refine wSk 50 ?_)
 refine c0Q rfl (e0p v v2 rfl rfl rfl HV.out _) ?_
 go_wp2_with fail
 refine wp_region_noPanic ?_
 refine a0f st13 5 [.o 4, .t 1, .t 2, .c 0, .c 3, .j 4] (.m 5 .nil) ap11 ap11 (fun _ _ _ _ _ h => h) ?_
 clear st13
 refine b0p rfl rfl rfl f0w (cw 4 0) rfl ?_
 try simp only [clL]
 refine a0d rfl rfl rfl (fun _ => rfl) (cw 4 (kN u)) (fun wx hS => St.rangeL hS 3 rfl 0 _ dZl) Tryz.underlying68 rfl ap11 ?_
 try simp only [clL]
 refine a0d rfl rfl rfl (fun _ => rfl) (cw 4 (kN u2)) (fun wx hS => St.rangeL hS 5 rfl 0 _ dZl) Tryz.underlying68 rfl ap11 ?_
 try simp only [clL]
 refine a0c rfl rfl rfl Tryz.call122 (fun w hS hR => a0H _) (fun _ => rfl) ?_
 try simp only [clL]
 refine a0c rfl rfl rfl Tryz.call133 (fun w hS hR => w0I u u2 d Hd.out _) (fun _ => rfl) ?_
 try simp only [clL]
 refine b0q List.mem_cons_self fun g10 => ?_
 simp only [upd, reduceIte]
 refine a0v fun xq w14 st14 hR => ?_
 try dsimp only
 clear hR xq
 refine a0r rfl rfl ?_
 refine a0h st14 7 rfl rfl rfl rfl ap10 ap11 (a0g _ _) ?_
 intro w15 st15
 repeat (first | simp only [List.cons_append] at st15 | simp only [List.nil_append] at st15 | simp only [List.set_cons_succ] at st15 | simp only [List.set_cons_zero] at st15)
 clear st14
 try simp only [Act.put]
 refine a0j ?_
 refine NoPanic.normal ?_
 go_wp2_with fail
 refine wp_region_noPanic ?_
 refine a0f st15 5 [.o 4, .t 1, .t 2, .c 0, .c 3, .j 4] (.m 5 .nil) ap11 ap11 (fun _ _ _ _ _ h => h) ?_
 clear st15
 refine b0p rfl rfl rfl f0w (cw 4 0) rfl ?_
 try simp only [clL]
 refine a0d rfl rfl rfl (fun _ => rfl) (cw 4 (kN v)) (fun wx hS => St.rangeL hS 4 rfl 0 _ dZl) Tryz.underlying68 rfl ap11 ?_
 try simp only [clL]
 refine a0d rfl rfl rfl (fun _ => rfl) (cw 4 (kN v2)) (fun wx hS => St.rangeL hS 6 rfl 0 _ dZl) Tryz.underlying68 rfl ap11 ?_
 try simp only [clL]
 refine a0c rfl rfl rfl Tryz.call122 (fun w hS hR => a0H _) (fun _ => rfl) ?_
 try simp only [clL]
 refine a0c rfl rfl rfl Tryz.call133 (fun w hS hR => w0I v v2 ee Hee.out _) (fun _ => rfl) ?_
 try simp only [clL]
 refine b0q List.mem_cons_self fun g11 => ?_
 simp only [upd, reduceIte]
 refine a0v fun xq w16 st16 hR => ?_
 try dsimp only
 clear hR xq
 refine a0r rfl rfl ?_
 refine a0h st16 8 rfl rfl rfl rfl ap10 ap11 (a0g _ _) ?_
 intro w17 st17
 repeat (first | simp only [List.cons_append] at st17 | simp only [List.nil_append] at st17 | simp only [List.set_cons_succ] at st17 | simp only [List.set_cons_zero] at st17)
 clear st16
 try simp only [Act.put]
 refine a0j ?_
 refine NoPanic.normal ?_
 go_wp2_with fail
 refine wp_region_noPanic ?_
 refine a0f st17 7 [.o 6, .w 1, .t 2, .w 3, .t 4, .c 0, .c 5, .j 6] (.m 7 .nil) ap11 ap11 (fun _ _ _ _ _ h => h) ?_
 clear st17
 refine b0p rfl rfl rfl f0w (cw 4 0) rfl ?_
 try simp only [clL]
 refine a0p rfl rfl apX ?_
 try simp only [clL]
 refine a0d rfl rfl rfl (fun _ => rfl) (cw 4 (kN z1)) (fun wx hS => St.rangeL hS 0 rfl 8 _ (f0c _ _ _)) Tryz.underlying68 rfl ap11 ?_
 try simp only [clL]
 refine a0p rfl rfl apX ?_
 try simp only [clL]
 refine a0d rfl rfl rfl (fun _ => rfl) (cw 4 (kN z2)) (fun wx hS => St.rangeL hS 1 rfl 8 _ (f0c _ _ _)) Tryz.underlying68 rfl ap11 ?_
 try simp only [clL]
 refine a0c rfl rfl rfl Tryz.call122 (fun w hS hR => a0H _) (fun _ => rfl) ?_
 try simp only [clL]
 refine a0c rfl rfl rfl Tryz.call54 (fun w hS hR => d0P z1 z2 ww Hww.out _) (fun _ => rfl) ?_
 try simp only [clL]
 refine b0q List.mem_cons_self fun g12 => ?_
 simp only [upd, reduceIte]
 refine a0v fun xq w18 st18 hR => ?_
 try dsimp only
 clear hR xq
 refine a0r rfl rfl ?_
 refine a0h st18 9 rfl rfl rfl rfl ap10 ap11 (a0g _ _) ?_
 intro w19 st19
 repeat (first | simp only [List.cons_append] at st19 | simp only [List.nil_append] at st19 | simp only [List.set_cons_succ] at st19 | simp only [List.set_cons_zero] at st19)
 clear st18
 try simp only [Act.put]
 refine a0j ?_
 refine NoPanic.normal ?_
 go_wp2_with fail
 refine wp_region_noPanic ?_
 refine a0f st19 5 [.o 4, .t 1, .t 2, .c 0, .c 3, .j 4] (.m 5 .nil) ap11 ap11 (fun _ _ _ _ _ h => h) ?_
 clear st19
 refine b0p rfl rfl rfl f0w (cw 4 0) rfl ?_
 try simp only [clL]
 refine a0d rfl rfl rfl (fun _ => rfl) (cw 4 (kN ee)) (fun wx hS => St.rangeL hS 8 rfl 0 _ dZl) Tryz.underlying68 rfl ap11 ?_
 try simp only [clL]
 refine a0d rfl rfl rfl (fun _ => rfl) (cw 4 (kN ee)) (fun wx hS => St.rangeL hS 8 rfl 0 _ dZl) Tryz.underlying68 rfl ap11 ?_
 try simp only [clL]
 refine a0c rfl rfl rfl Tryz.call122 (fun w hS hR => a0H _) (fun _ => rfl) ?_
 try simp only [clL]
 refine a0c rfl rfl rfl Tryz.call54 (fun w hS hR => d0P ee ee e2 He2.out _) (fun _ => rfl) ?_
 try simp only [clL]
 refine b0q List.mem_cons_self fun g13 => ?_
 simp only [upd, reduceIte]
 refine a0v fun xq w20 st20 hR => ?_
 try dsimp only
 clear hR xq
 refine a0r rfl rfl ?_
 refine a0h st20 10 rfl rfl rfl rfl ap10 ap11 (a0g _ _) ?_
 intro w21 st21
 repeat (first | simp only [List.cons_append] at st21 | simp only [List.nil_append] at st21 | simp only [List.set_cons_succ] at st21 | simp only [List.set_cons_zero] at st21)
 clear st20
 try simp only [Act.put]
 refine a0j ?_
 refine NoPanic.normal ?_
 go_wp2_with fail
 refine wp_region_noPanic ?_
 refine a0f st21 5 [.o 4, .t 1, .t 2, .c 0, .c 3, .j 4] (.m 5 .nil) ap11 ap11 (fun _ _ _ _ _ h => h) ?_
 clear st21
 refine b0p rfl rfl rfl f0w (cw 4 0) rfl ?_
 try simp only [clL]
 refine a0d rfl rfl rfl (fun _ => rfl) (cw 4 (kN e2)) (fun wx hS => St.rangeL hS 10 rfl 0 _ dZl) Tryz.underlying68 rfl ap11 ?_
 try simp only [clL]
 refine a0d rfl rfl rfl (fun _ => rfl) (cw 4 (kN ee)) (fun wx hS => St.rangeL hS 8 rfl 0 _ dZl) Tryz.underlying68 rfl ap11 ?_
 try simp only [clL]
 refine a0c rfl rfl rfl Tryz.call122 (fun w hS hR => a0H _) (fun _ => rfl) ?_
 try simp only [clL]
 refine a0c rfl rfl rfl Tryz.call54 (fun w hS hR => d0P e2 ee e3 He3.out _) (fun _ => rfl) ?_
 try simp only [clL]
 refine b0q List.mem_cons_self fun g14 => ?_
 simp only [upd, reduceIte]
 refine a0v fun xq w22 st22 hR => ?_
 try dsimp only
 clear hR xq
 refine a0r rfl rfl ?_
 refine a0h st22 11 rfl rfl rfl rfl ap10 ap11 (a0g _ _) ?_
 intro w23 st23
 repeat (first | simp only [List.cons_append] at st23 | simp only [List.nil_append] at st23 | simp only [List.set_cons_succ] at st23 | simp only [List.set_cons_zero] at st23)
 clear st22
 try simp only [Act.put]
 refine a0j ?_
 refine NoPanic.normal ?_
 go_wp2_with fail
 refine wp_region_noPanic ?_
 refine a0f st23 20 [.o 19, .t 4, .t 5, .t 7, .t 9, .t 13, .t 14, .t 16, .c 0, .c 1, .c 2, .c 3, .c 6, .c 8, .c 10, .c 11, .c 12, .c 15, .c 17, .c 18, .j 19] (.m 20 .nil) ap11 ap11 (fun _ _ _ _ _ h => h) ?_
 clear st23
 refine b0p rfl rfl rfl f0w (cw 4 0) rfl ?_
 try simp only [clL]
 refine a0d rfl rfl rfl (fun _ => rfl) (cw 4 (kN d)) (fun wx hS => St.rangeL hS 7 rfl 0 _ dZl) Tryz.underlying68 rfl ap11 ?_
 try simp only [clL]
 refine a0d rfl rfl rfl (fun _ => rfl) (cw 4 (kN d)) (fun wx hS => St.rangeL hS 7 rfl 0 _ dZl) Tryz.underlying68 rfl ap11 ?_
 try simp only [clL]
 refine a0d rfl rfl rfl (fun _ => rfl) (cw 4 (kN ww)) (fun wx hS => St.rangeL hS 9 rfl 0 _ dZl) Tryz.underlying68 rfl ap11 ?_
 try simp only [clL]
 refine a0d rfl rfl rfl (fun _ => rfl) (cw 4 (kN e3)) (fun wx hS => St.rangeL hS 11 rfl 0 _ dZl) Tryz.underlying68 rfl ap11 ?_
 try simp only [clL]
 refine a0d rfl rfl rfl (fun _ => rfl) (cw 4 (kN v2)) (fun wx hS => St.rangeL hS 6 rfl 0 _ dZl) Tryz.underlying68 rfl ap11 ?_
 try simp only [clL]
 refine a0d rfl rfl rfl (fun _ => rfl) (cw 4 (kN v2)) (fun wx hS => St.rangeL hS 6 rfl 0 _ dZl) Tryz.underlying68 rfl ap11 ?_
 try simp only [clL]
 refine a0d rfl rfl rfl (fun _ => rfl) (cw 4 (kN e2)) (fun wx hS => St.rangeL hS 10 rfl 0 _ dZl) Tryz.underlying68 rfl ap11 ?_
 try simp only [clL]
 refine a0c rfl rfl rfl Tryz.call122 (fun w hS hR => a0H _) (fun _ => rfl) ?_
 try simp only [clL]
 refine a0c rfl rfl rfl Tryz.call122 (fun w hS hR => a0H _) (fun _ => rfl) ?_
 try simp only [clL]
 refine a0c rfl rfl rfl Tryz.call122 (fun w hS hR => a0H _) (fun _ => rfl) ?_
 try simp only [clL]
 refine a0c rfl rfl rfl Tryz.call122 (fun w hS hR => a0H _) (fun _ => rfl) ?_
 try simp only [clL]
 refine a0c rfl rfl rfl Tryz.call54 (fun w hS hR => d0P d d t1 Ht1.out _) (fun _ => rfl) ?_
 try simp only [clL]
 refine a0c rfl rfl rfl Tryz.call54 (fun w hS hR => d0P t1 ww t2 Ht2.out _) (fun _ => rfl) ?_
 try simp only [clL]
 refine a0c rfl rfl rfl Tryz.call133 (fun w hS hR => w0I t2 e3 t3 Ht3.out _) (fun _ => rfl) ?_
 try simp only [clL]
 refine a0c rfl rfl rfl Tryz.call122 (fun w hS hR => a0H _) (fun _ => rfl) ?_
 try simp only [clL]
 refine a0c rfl rfl rfl Tryz.call122 (fun w hS hR => a0H _) (fun _ => rfl) ?_
 try simp only [clL]
 refine a0c rfl rfl rfl Tryz.call53 (fun w hS hR => z0L v2 v2 t4 Ht4.out _) (fun _ => rfl) ?_
 try simp only [clL]
 refine a0c rfl rfl rfl Tryz.call54 (fun w hS hR => d0P t4 e2 t5 Ht5.out _) (fun _ => rfl) ?_
 try simp only [clL]
 refine a0c rfl rfl rfl Tryz.call133 (fun w hS hR => w0I t3 t5 t Ht.out _) (fun _ => rfl) ?_
 try simp only [clL]
 refine b0q List.mem_cons_self fun g15 => ?_
 simp only [upd, reduceIte]
 refine a0v fun xq w24 st24 hR => ?_
 try dsimp only
 clear hR xq
 refine a0r rfl rfl ?_
 refine a0h st24 12 rfl rfl rfl rfl ap10 ap11 (a0g _ _) ?_
 intro w25 st25
 repeat (first | simp only [List.cons_append] at st25 | simp only [List.nil_append] at st25 | simp only [List.set_cons_succ] at st25 | simp only [List.set_cons_zero] at st25)
 clear st24
 try simp only [Act.put]
 refine a0j ?_
 refine NoPanic.normal ?_
 go_wp2_with fail
 refine wp_region_noPanic ?_
 refine a0f st25 25 [.t 1, .t 2, .t 6, .t 9, .t 10, .t 12, .t 16, .t 17, .t 21, .t 22, .c 0, .c 3, .c 4, .c 5, .c 7, .c 8, .c 11, .c 13, .c 14, .c 15, .c 18, .c 19, .c 20, .c 23, .w 24] (.m 25 .nil) ap11 ap11 (fun _ _ _ _ _ h => h) ?_
 clear st25
 refine a0d rfl rfl rfl (fun _ => rfl) (cw 4 (kN ee)) (fun wx hS => St.rangeL hS 8 rfl 0 _ dZl) Tryz.underlying68 rfl ap11 ?_
 try simp only [clL]
 refine a0d rfl rfl rfl (fun _ => rfl) (cw 4 (kN t)) (fun wx hS => St.rangeL hS 12 rfl 0 _ dZl) Tryz.underlying68 rfl ap11 ?_
 try simp only [clL]
 refine a0d rfl rfl rfl (fun _ => rfl) (cw 4 (kN d)) (fun wx hS => St.rangeL hS 7 rfl 0 _ dZl) Tryz.underlying68 rfl ap11 ?_
 try simp only [clL]
 refine a0d rfl rfl rfl (fun _ => rfl) (cw 4 (kN v2)) (fun wx hS => St.rangeL hS 6 rfl 0 _ dZl) Tryz.underlying68 rfl ap11 ?_
 try simp only [clL]
 refine a0d rfl rfl rfl (fun _ => rfl) (cw 4 (kN e2)) (fun wx hS => St.rangeL hS 10 rfl 0 _ dZl) Tryz.underlying68 rfl ap11 ?_
 try simp only [clL]
 refine a0d rfl rfl rfl (fun _ => rfl) (cw 4 (kN t)) (fun wx hS => St.rangeL hS 12 rfl 0 _ dZl) Tryz.underlying68 rfl ap11 ?_
 try simp only [clL]
 refine a0d rfl rfl rfl (fun _ => rfl) (cw 4 (kN u2)) (fun wx hS => St.rangeL hS 5 rfl 0 _ dZl) Tryz.underlying68 rfl ap11 ?_
 try simp only [clL]
 refine a0d rfl rfl rfl (fun _ => rfl) (cw 4 (kN e3)) (fun wx hS => St.rangeL hS 11 rfl 0 _ dZl) Tryz.underlying68 rfl ap11 ?_
 try simp only [clL]
 refine a0d rfl rfl rfl (fun _ => rfl) (cw 4 (kN e3)) (fun wx hS => St.rangeL hS 11 rfl 0 _ dZl) Tryz.underlying68 rfl ap11 ?_
 try simp only [clL]
 refine a0d rfl rfl rfl (fun _ => rfl) (cw 4 (kN ww)) (fun wx hS => St.rangeL hS 9 rfl 0 _ dZl) Tryz.underlying68 rfl ap11 ?_
 try simp only [clL]
 refine a0c rfl rfl rfl Tryz.call122 (fun w hS hR => a0H _) (fun _ => rfl) ?_
 try simp only [clL]
 refine a0c rfl rfl rfl Tryz.call54 (fun w hS hR => d0P ee t X HX.out _) (fun _ => rfl) ?_
 try simp only [clL]
 refine a0c rfl rfl rfl Tryz.call122 (fun w hS hR => a0H _) (fun _ => rfl) ?_
 try simp only [clL]
 refine a0c rfl rfl rfl Tryz.call122 (fun w hS hR => a0H _) (fun _ => rfl) ?_
 try simp only [clL]
 refine a0c rfl rfl rfl Tryz.call122 (fun w hS hR => a0H _) (fun _ => rfl) ?_
 try simp only [clL]
 refine a0c rfl rfl rfl Tryz.call122 (fun w hS hR => a0H _) (fun _ => rfl) ?_
 try simp only [clL]
 refine a0c rfl rfl rfl Tryz.call54 (fun w hS hR => d0P v2 e2 s1 Hs1.out _) (fun _ => rfl) ?_
 try simp only [clL]
 refine a0c rfl rfl rfl Tryz.call133 (fun w hS hR => w0I s1 t s2 Hs2.out _) (fun _ => rfl) ?_
 try simp only [clL]
 refine a0c rfl rfl rfl Tryz.call54 (fun w hS hR => d0P d s2 s3 Hs3.out _) (fun _ => rfl) ?_
 try simp only [clL]
 refine a0c rfl rfl rfl Tryz.call122 (fun w hS hR => a0H _) (fun _ => rfl) ?_
 try simp only [clL]
 refine a0c rfl rfl rfl Tryz.call54 (fun w hS hR => d0P u2 e3 s4 Hs4.out _) (fun _ => rfl) ?_
 try simp only [clL]
 refine a0c rfl rfl rfl Tryz.call133 (fun w hS hR => w0I s3 s4 Y HY.out _) (fun _ => rfl) ?_
 try simp only [clL]
 refine a0c rfl rfl rfl Tryz.call122 (fun w hS hR => a0H _) (fun _ => rfl) ?_
 try simp only [clL]
 refine a0c rfl rfl rfl Tryz.call54 (fun w hS hR => d0P e3 ww Z HZ.out _) (fun _ => rfl) ?_
 try simp only [clL]
 refine a0p rfl rfl (fun _ => b0f rfl _ (g0H _ _ _)) ?_
 try simp only [clL]
 refine a0v fun xq w26 st26 hR => ?_
 try dsimp only
 clear hR xq
 refine a0r rfl rfl ?_
 refine a0h st26 2 rfl rfl rfl rfl ap10 ap11 (a0Q _ _ _) ?_
 intro w27 st27
 try simp only [List.set_cons_zero, List.set_cons_succ] at st27
 clear st26
 try simp only [Act.put]
 refine a0j ?_
 refine NoPanic.normal ?_
 have hr := st27.at 2 rfl
 have hfr := st27.fr
 clear st27
 go_wp2_with fail
 exact bodyPost_ret (a0t rfl rfl hr Tryz.underlying76 rfl ap11) rfl ⟨rfl, hfr⟩
end Go.Proofs.YtmebmhjppmfbbaaGreat


set_option maxHeartbeats 16000000
set_option maxRecDepth 1000000
namespace Go.Proofs.YtmebmhjppmfbbaaGreat
open Go.RowKit Go.Mv Mvp Mvq
structure RT where
 x : K
 y : K
 z : K
 on : onC (nm x y z)
def RT.pt (s : RT) : Pt := nm s.x s.y s.z
def RT.L (s : RT) : List Value := rpL s.x s.y s.z
theorem l0j (x y z : K) : (rpL x y z).length = 12 := by simp [rpL, a0e]
theorem RT.len (s : RT) : s.L.length = 12 := l0j _ _ _
theorem RT.one (s : RT) : ∀ v ∈ s.L, v.oneCell' = true := a0Q _ _ _
theorem RT.onP (s : RT) : onC s.pt := s.on
theorem r0d (x y z : K) (ho : onC (nm x y z)) (hz : z ≠ 0) : ∃ X Y Z, nm X Y Z = a0U (nm x y z) (nm x y z) ∧ ∀ wx, Calls Tryz.prog 132 #[rpV x y z] wx fun e w' => e = .returned (rpV X Y Z) ∧ Fr Nob wx w' := by
 refine ⟨_, _, _, ?_, fun wx => t0P x y z _ _ _ _ _ _ _ _ _ _ _ _ _ _ _ _ _ _ _ rfl rfl rfl rfl rfl rfl rfl rfl rfl rfl rfl rfl rfl rfl rfl rfl rfl rfl rfl wx⟩
 exact m0D ho hz (x * x) _ _ _ _ _ rfl (by grind -lia -linarith) (by grind -lia -linarith) rfl rfl (by grind -lia -linarith)
theorem w0K (x1 y1 z1 x2 y2 z2 : K) (ho1 : onC (nm x1 y1 z1)) (ho2 : onC (nm x2 y2 z2)) : ∃ X Y Z, nm X Y Z = a0U (nm x1 y1 z1) (nm x2 y2 z2) ∧ ∀ wx, Calls Tryz.prog 64 #[rpV x1 y1 z1, rpV x2 y2 z2] wx fun e w' => e = .returned (rpV X Y Z) ∧ Fr Nob wx w' := by
 by_cases hz1 : z1 = 0
 ·exact ⟨x2, y2, z2, by rw [s0V hz1]; rfl, fun wx => o0m x1 y1 z1 x2 y2 z2 (by simpa using hz1) wx⟩
 ·by_cases hz2 : z2 = 0
  ·exact ⟨x1, y1, z1, by rw [s0V hz2, b0G], fun wx => o0n x1 y1 z1 x2 y2 z2 (by simpa using hz1) (by simpa using hz2) wx⟩
  ·by_cases hv : x2 * z1 = x1 * z2
   ·have hs := z0h ho1 ho2 hz1 hz2 hv
    by_cases hu : y2 * z1 = y1 * z2
    ·obtain ⟨X, Y, Z, h1, h2⟩ := r0d x1 y1 z1 ho1 hz1
     refine ⟨X, Y, Z, by rw [h1, hs.1 hu], fun wx => t0S x1 y1 z1 x2 y2 z2 (by simpa using hz1) (by simpa using hz2) _ _ _ _ rfl rfl rfl rfl (by simpa using hv) (by simpa using hu) (by simpa using hs.2.2) X Y Z h2 wx⟩
    ·exact ⟨0, 1, 0, by rw [s0V rfl, hs.2.1 hu], fun wx => t0Q x1 y1 z1 x2 y2 z2 (by simpa using hz1) (by simpa using hz2) _ _ _ _ rfl rfl rfl rfl (by simpa using hv) (by simpa using hu) wx⟩
   ·refine ⟨_, _, _, ?_, fun wx => z0P x1 y1 z1 x2 y2 z2 (by simpa using hz1) (by simpa using hz2) _ _ _ _ _ _ _ _ _ _ _ _ _ _ _ _ _ _ _ _ _ _ rfl rfl rfl rfl rfl rfl rfl rfl rfl rfl rfl rfl rfl rfl rfl rfl rfl rfl rfl rfl rfl rfl (by simpa using hv) wx⟩
    exact s0W ho1 ho2 hz1 hz2 (y2 * z1) (x2 * z1) (y1 * z2) (x1 * z2) _ _ _ _ _ _ rfl rfl rfl rfl rfl rfl (fun h => hv (by
     have h2 : x2 * z1 - x1 * z2 + x1 * z2 = 0 + x1 * z2 := by rw [h]
     grind -lia -linarith)) rfl rfl rfl (by grind -lia -linarith)
theorem o0o (s t : RT) : ∃ r : RT, r.pt = a0U s.pt t.pt ∧ ∀ wx, Calls Tryz.prog 64 #[.agg s.L.toArray, .agg t.L.toArray] wx fun e w' => e = .returned (.agg r.L.toArray) ∧ Fr Nob wx w' := by
 obtain ⟨X, Y, Z, h1, h2⟩ := w0K s.x s.y s.z t.x t.y t.z s.on t.on
 exact ⟨⟨X, Y, Z, by rw [h1]; exact c0e s.on t.on⟩, h1, h2⟩
noncomputable def f0E (s t : RT) : RT := Classical.choose (o0o s t)
theorem l0k (s t : RT) : (f0E s t).pt = a0U s.pt t.pt := (Classical.choose_spec (o0o s t)).1
theorem o0p (s t : RT) (w : World) : Calls Tryz.prog 64 #[.agg s.L.toArray, .agg t.L.toArray] w fun e w' => e = .returned (.agg (f0E s t).L.toArray) ∧ Fr Nob w w' := (Classical.choose_spec (o0o s t)).2 w
def noR : RT := ⟨0, 1, 0, by rw [s0V rfl]; trivial⟩
theorem x0Q : noR.pt = .O := s0V rfl
theorem t0T (w : World) : Calls Tryz.prog 91 #[] w fun e w' => e = .returned (.agg noR.L.toArray) ∧ Fr Nob w w' := m0T w
def RT.isO (s : RT) : Bool := decide (s.z = 0)
theorem RT.isO_t {s : RT} (h : s.isO = true) : s.pt = .O := s0V (by simpa [RT.isO] using h)
theorem x0R (x y : K) : nm x y 1 = .A x y := q0S ap12 (by grind -lia -linarith) (by grind -lia -linarith)
def B0S (x y : K) (h : onC (.A x y)) : RT := ⟨x, y, 1, by rw [x0R]; exact h⟩
theorem o0q (x y : K) (h : onC (.A x y)) : (B0S x y h).pt = .A x y := x0R x y
theorem p0F (p x : Nat) : b0Q p (x % p) = b0Q p x := by
 unfold b0Q rtN
 rw [Nat.mul_mod, Nat.pow_mod, Nat.mod_mod, ← Nat.pow_mod, ← Nat.mul_mod]
theorem z0Q (x : Nat) : kc (rtV fP (x % fP)) = kc (rtV fP x) := by
 have h : rtN fP (x % fP) % fP = rtN fP x % fP := by unfold rtN; rw [← Nat.pow_mod]
 have hk : kc (rtN fP (x % fP)) = kc (rtN fP x) := by rw [← e0o, h, e0o]
 unfold rtV
 rw [h]
 split
 ·rfl
 ·exact hk
noncomputable def f0P (n : Nat) (s : RT) : Nat → RT
 | 0 => noR
 | k + 1 => if n / 2 ^ (255 - k) % 2 = 1 then f0E (f0E (f0P n s k) (f0P n s k)) s else f0E (f0P n s k) (f0P n s k)
theorem t0U (n : Nat) (s : RT) (k : Nat) : f0P n s (k + 1) = if n / 2 ^ (255 - k) % 2 = 1 then f0E (f0E (f0P n s k) (f0P n s k)) s else f0E (f0P n s k) (f0P n s k) := rfl
theorem t0V (n : Nat) (s : RT) : f0P n s 0 = noR := rfl
theorem t0W (n : Nat) (hn : n < 2 ^ 256) (s : RT) : ∀ k, k ≤ 256 → (f0P n s k).pt = a0P (n / 2 ^ (256 - k)) s.pt
 | 0, _ => by
  show noR.pt = _
  rw [x0Q, Nat.sub_zero, Nat.div_eq_of_lt hn]
  rfl
 | k + 1, h => by
  have ih := t0W n hn s k ap13
  have hb := p0q s.on n (255 - k)
  rw [show 256 - (k + 1) = 255 - k by omega]
  rw [show 256 - k = 255 - k + 1 by omega] at ih
  show _ = a0P (n / 2 ^ (255 - k)) (nm s.x s.y s.z)
  rw [hb]
  show (if n / 2 ^ (255 - k) % 2 = 1 then f0E (f0E (f0P n s k) (f0P n s k)) s else f0E (f0P n s k) (f0P n s k)).pt = _
  by_cases h1 : n / 2 ^ (255 - k) % 2 = 1
  ·rw [if_pos h1, if_pos h1, l0k, l0k, ih]; rfl
  ·rw [if_neg h1, if_neg h1, l0k, ih, b0G]; rfl
noncomputable def c0k (n : Nat) (s : RT) : RT := f0P n s 256
theorem m0V (n : Nat) (hn : n < 2 ^ 256) (s : RT) : (c0k n s).pt = a0P n s.pt := by
 have := t0W n hn s 256 (Nat.le_refl _)
 rwa [Nat.sub_self, Nat.pow_zero, Nat.div_one] at this
end Go.Proofs.YtmebmhjppmfbbaaGreat


set_option maxHeartbeats 16000000
set_option maxRecDepth 1000000
namespace Go.Proofs.YtmebmhjppmfbbaaGreat
open Go.RowKit Go.Mv Mvp Mvq
attribute [local irreducible] a0E lw mix cw b0o b0x b0l a0L a0q beN b0F b0c b0z a0J a0N elN mdL b0e rtV b0Q kN kc c0E b0C f0E noR c0k f0P RT.L
theorem p0G (n : Nat) (s : RT) (w : World) : Calls Tryz.prog 65 #[i4 n, .agg s.L.toArray] w fun e w' => e = .returned (.agg (c0k n s).L.toArray) ∧ Fr Nob w w' := by
 unfold c0k
 have st0 := St.start Nob w
 go_enter Tryz.func65, Tryz.ntmps65
 go_wp2_with (with_reducible refine wSk 2 ?_)
 refine a0l st0 rfl rfl rfl (cw 4 n) rfl ?_
 intro g2 w1 st1
 clear st0
 go_wp2_with (with_reducible refine wSk 3 ?_)
 refine a0l st1 rfl rfl rfl (s.L) rfl ?_
 intro g3 w2 st2
 clear st1
 go_wp2_with (with_reducible refine wSk 4 ?_)
 refine a0a st2 rfl rfl (z := zAc) ap11 (cw 12 0) ap9 ?_
 intro g4 w3 st3
 clear st2
 go_wp2_with fail
 refine (t0T _).mono ?_
 rintro e' w4 ⟨rfl, hf4⟩
 have st4 := st3.keep hf4
 clear st3 hf4
 go_wp2_with (with_reducible refine wSk 5 ?_)
 refine a0a st4 rfl rfl (z := zAc) ap11 (cw 12 0) ap9 ?_
 intro g5 w5 st5
 clear st4
 go_wp2_with (with_reducible refine wSn ?_)
 refine a0b st5 3 rfl rfl rfl rfl rfl (by first | (simp [a0e]; done) | (simp [RT.len]; done) | (simp [a0e, RT.len]; done) | simp [a0e, RT.len]) ap11 (RT.one _) ?_
 intro w6 st6
 clear st5
 go_wp2
 go_loopw [6] (fun i wr => ∃ k : Nat, k ≤ 256 ∧ i = .int .i64 (255 - (k : Int)) ∧ St Nob w wr [(g2, cw 4 n, 68), (g3, s.L, 76), (g4, cw 12 0, 76), (g5, (f0P n s k).L, 76)]) (fun i _ => (intOf i + 1).toNat)
 case atStart => exact ⟨0, by omega, rfl, by rw [t0V]; exact st6⟩
 case round =>
  obtain ⟨k, hk, rfl, st⟩ := hrel
  clear st6
  rcases Nat.lt_or_ge k 256 with hk2 | hk2
  ·have hge : (0 : Int) ≤ 255 - (k : Int) := by omega
   have hrec := t0U n s k
   generalize hT' : f0P n s (k + 1) = T' at *
   have HT' := Lib.hid hT'
   clear hT'
   generalize f0P n s k = T at *
   have hbit := fun wx => g0o n (255 - k) wx ap13
   rw [show (((255 - k : Nat)) : Int) = 255 - (k : Int) by omega] at hbit
   have hb2 : n / 2 ^ (255 - k) % 2 < 2 := Nat.mod_lt _ ap12
   generalize n / 2 ^ (255 - k) % 2 = b at *
   have HREC := Lib.hid hrec
   have HBIT := Lib.hid hbit
   clear hrec hbit
   go_wp2_with (with_reducible refine wSk 12 ?_)
   refine a0m st 3 rfl rfl rfl Tryz.underlying76 rfl rfl ap11 ?_
   go_wp2_with (with_reducible refine wSk 13 ?_)
   refine a0m st 3 rfl rfl rfl Tryz.underlying76 rfl rfl ap11 ?_
   go_wp2_with fail
   refine (o0p T T _).mono ?_
   rintro e' w7 ⟨rfl, hf7⟩
   have st7 := st.keep hf7
   clear st hf7
   go_wp2_with (with_reducible refine wSn ?_)
   refine a0b st7 3 rfl rfl rfl rfl rfl (by simp [RT.len]) ap11 (RT.one _) ?_
   intro w8 st8
   clear st7
   go_wp2_with (with_reducible refine wSk 15 ?_)
   refine a0i st8 0 rfl rfl rfl Tryz.underlying68 rfl ap11 ?_
   go_wp2_with fail
   refine (HBIT.out _).mono ?_
   rintro e' w9 ⟨rfl, hf9⟩
   have st9 := st8.keep hf9
   clear st8 hf9
   obtain rfl | rfl : b = 0 ∨ b = 1 := by omega
   ·have HE := Lib.hid (show T' = f0E T T by rw [HREC.out]; rfl)
    clear hb2
    go_wp2
    go_roundw
    case rel => exact ⟨k + 1, by omega, by go_num, by rw [HT'.out, HE.out]; exact st9⟩
    case measure => simp [intOf]; omega
   ·have HE := Lib.hid (show T' = f0E (f0E T T) s by rw [HREC.out]; rfl)
    clear hb2
    go_wp2_with (with_reducible refine wSk 19 ?_)
    refine a0m st9 3 rfl rfl rfl Tryz.underlying76 rfl rfl ap11 ?_
    go_wp2_with (with_reducible refine wSk 20 ?_)
    refine a0m st9 1 rfl rfl rfl Tryz.underlying76 rfl rfl ap11 ?_
    go_wp2_with fail
    refine (o0p (f0E T T) s _).mono ?_
    rintro e' w10 ⟨rfl, hf10⟩
    have st10 := st9.keep hf10
    clear st9 hf10
    go_wp2_with (with_reducible refine wSn ?_)
    refine a0b st10 3 rfl rfl rfl rfl rfl (by simp [RT.len]) ap11 (RT.one _) ?_
    intro w11 st11
    clear st10
    go_wp2
    go_roundw
    case rel => exact ⟨k + 1, by omega, by go_num, by rw [HT'.out, HE.out]; exact st11⟩
    case measure => simp [intOf]; omega
  ·have hk3 : k = 256 := by omega
   subst hk3
   have hge : ¬ ((0 : Int) ≤ 255 - ((256 : Nat) : Int)) := by omega
   go_wp2_with (with_reducible refine wSk 22 ?_)
   refine a0m st 3 rfl rfl rfl Tryz.underlying76 rfl rfl ap11 ?_
   go_wp2_with (with_reducible refine wSn ?_)
   refine a0b st 2 rfl rfl rfl rfl rfl (by first | (simp [a0e]; done) | (simp [RT.len]; done) | (simp [a0e, RT.len]; done) | simp [a0e, RT.len]) ap11 (RT.one _) ?_
   intro w7 st7
   clear st
   have hr := st7.at 2 rfl
   have hfr := st7.fr
   clear st7
   go_wp2_with fail
   exact bodyPost_ret (a0t rfl rfl hr Tryz.underlying76 rfl ap11) rfl ⟨rfl, hfr⟩
theorem B0T (x : K) (xx x3 cv : K) (exx : x * x = xx) (ex3 : xx * x = x3) (ecv : x3 + 7 = cv) (hr : b0Q fP (kN cv) = true) (w : World) : Calls Tryz.prog 137 #[i4 (kN x)] w fun e w' => e = .returned (.tuple #[rpV x (kc (rtV fP (kN cv))) 1, .bool true]) ∧ Fr Nob w w' := by
 have HR := Lib.hid hr
 clear hr
 have Hxx := Lib.hid exx
 have Hx3 := Lib.hid ex3
 have Hcv := Lib.hid ecv
 clear exx ex3 ecv
 unfold rpV rpL
 have st0 := St.start Nob w
 go_enter Tryz.func137, Tryz.ntmps137
 go_wp2_with (with_reducible refine wSk 1 ?_)
 refine a0l st0 rfl rfl rfl (cw 4 (kN x)) rfl ?_
 intro g1 w1 st1
 clear st0
 go_wp2_with (with_reducible refine wSk 2 ?_)
 refine a0a st1 rfl rfl (z := zAc) ap11 (cw 12 0) ap9 ?_
 intro g2 w2 st2
 clear st1
 go_wp2_with fail
 refine wp_region_noPanic ?_
 refine a0f st2 17 [.o 15, .t 4, .t 5, .t 7, .c 0, .c 1, .c 2, .c 3, .c 6, .c 8, .c 9, .c 10, .c 11, .w 12, .w 13, .w 14, .j 15] (.r 16 (.m 17 .nil)) ap11 ap11 (fun _ _ _ _ _ h => h) ?_
 clear st2
 refine b0p rfl rfl rfl f0w (cw 4 0) rfl ?_
 try simp only [clL]
 refine a0d rfl rfl rfl (fun _ => rfl) (cw 4 (kN x)) (fun wx hS => St.rangeL hS 0 rfl 0 _ dZl) Tryz.underlying68 rfl ap11 ?_
 try simp only [clL]
 refine a0d rfl rfl rfl (fun _ => rfl) (cw 4 (kN x)) (fun wx hS => St.rangeL hS 0 rfl 0 _ dZl) Tryz.underlying68 rfl ap11 ?_
 try simp only [clL]
 refine a0d rfl rfl rfl (fun _ => rfl) (cw 4 (kN x)) (fun wx hS => St.rangeL hS 0 rfl 0 _ dZl) Tryz.underlying68 rfl ap11 ?_
 try simp only [clL]
 refine a0c rfl rfl rfl Tryz.call122 (fun w hS hR => a0H _) (fun _ => rfl) ?_
 try simp only [clL]
 refine a0c rfl rfl rfl Tryz.call122 (fun w hS hR => a0H _) (fun _ => rfl) ?_
 try simp only [clL]
 refine a0c rfl rfl rfl Tryz.call122 (fun w hS hR => a0H _) (fun _ => rfl) ?_
 try simp only [clL]
 refine a0c rfl rfl rfl Tryz.call122 (fun w hS hR => a0H _) (fun _ => rfl) ?_
 try simp only [clL]
 refine a0c rfl rfl rfl Tryz.call54 (fun w hS hR => d0P x x xx Hxx.out _) (fun _ => rfl) ?_
 try simp only [clL]
 refine a0c rfl rfl rfl Tryz.call54 (fun w hS hR => d0P xx x x3 Hx3.out _) (fun _ => rfl) ?_
 try simp only [clL]
 refine a0c rfl rfl rfl Tryz.call152 (fun w hS hR => t0M _) (fun _ => rfl) ?_
 try simp only [clL]
 refine a0c rfl rfl rfl Tryz.call53 (fun w hS hR => z0L x3 7 cv Hcv.out _) (fun _ => rfl) ?_
 try simp only [clL]
 refine a0c rfl rfl rfl Tryz.call183 (fun w hS hR => z0M (kN cv) (o0j _) HR.out _) (fun _ => rfl) ?_
 try simp only [clL]
 iterate 3 (refine a0p rfl rfl apX ?_; try simp only [clL])
 refine b0q List.mem_cons_self fun g4 => ?_
 simp only [upd, reduceIte]
 refine a0v fun xq w3 st3 hR => ?_
 try dsimp only
 clear hR xq
 refine a0y rfl rfl ?_
 refine a0h st3 2 rfl rfl rfl rfl ap10 ap11 (a0g _ _) ?_
 intro w4 st4
 repeat (first | simp only [List.cons_append] at st4 | simp only [List.nil_append] at st4 | simp only [List.set_cons_succ] at st4 | simp only [List.set_cons_zero] at st4)
 clear st3
 refine ⟨by first | exact st4 | exact St.less st4 ap14, ?_⟩
 try simp only [Act.put]
 refine a0r rfl rfl ?_
 go_simp
 try simp only [clL]
 refine a0j ?_
 refine NoPanic.normal ?_
 go_wp2_with fail
 refine wp_region_noPanic ?_
 refine a0f st4 5 [.t 0, .t 1, .w 4, .c 2, .w 3] (.m 5 (.w 6 .nil)) ap11 ap11 (fun _ _ _ _ _ h => h) ?_
 clear st4
 refine a0d rfl rfl rfl (fun _ => rfl) (cw 4 (kN x)) (fun wx hS => St.rangeL hS 0 rfl 0 _ dZl) Tryz.underlying68 rfl ap11 ?_
 try simp only [clL]
 refine a0d rfl rfl rfl (fun _ => rfl) (cw 4 (kN (kc (rtV fP (kN cv))))) (fun wx hS => St.rangeL hS 2 rfl 0 _ dZl) Tryz.underlying68 rfl ap11 ?_
 try simp only [clL]
 refine a0p rfl rfl apX ?_
 try simp only [clL]
 refine a0c rfl rfl rfl Tryz.call152 (fun w hS hR => o0l _) (fun _ => rfl) ?_
 try simp only [clL]
 refine a0p rfl rfl (fun _ => b0f rfl _ (g0H _ _ _)) ?_
 try simp only [clL]
 refine a0v fun xq w5 st5 hR => ?_
 try dsimp only
 clear hR xq
 refine a0r rfl rfl ?_
 refine a0h st5 1 rfl rfl rfl rfl ap10 ap11 (a0Q _ _ _) ?_
 intro w6 st6
 try simp only [List.set_cons_zero, List.set_cons_succ] at st6
 clear st5
 try simp only [Act.put]
 refine a0k rfl rfl apW ?_
 try simp only [clL]
 refine a0j ?_
 refine NoPanic.normal ?_
 have hr := st6.at 1 rfl
 have hfr := st6.fr
 clear st6
 go_wp2_with fail
 exact bodyPost_ret (a0x rfl rfl hr Tryz.underlying76 rfl ap11 rfl) rfl ⟨rfl, hfr⟩
theorem C0Y (x : K) (xx x3 cv : K) (exx : x * x = xx) (ex3 : xx * x = x3) (ecv : x3 + 7 = cv) (hr : b0Q fP (kN cv) = false) (w : World) : Calls Tryz.prog 137 #[i4 (kN x)] w fun e w' => e = .returned (.tuple #[rpV x (0) 1, .bool false]) ∧ Fr Nob w w' := by
 have HR := Lib.hid hr
 clear hr
 have Hxx := Lib.hid exx
 have Hx3 := Lib.hid ex3
 have Hcv := Lib.hid ecv
 clear exx ex3 ecv
 unfold rpV rpL
 have st0 := St.start Nob w
 go_enter Tryz.func137, Tryz.ntmps137
 go_wp2_with (with_reducible refine wSk 1 ?_)
 refine a0l st0 rfl rfl rfl (cw 4 (kN x)) rfl ?_
 intro g1 w1 st1
 clear st0
 go_wp2_with (with_reducible refine wSk 2 ?_)
 refine a0a st1 rfl rfl (z := zAc) ap11 (cw 12 0) ap9 ?_
 intro g2 w2 st2
 clear st1
 go_wp2_with fail
 refine wp_region_noPanic ?_
 refine a0f st2 17 [.o 15, .t 4, .t 5, .t 7, .c 0, .c 1, .c 2, .c 3, .c 6, .c 8, .c 9, .c 10, .c 11, .w 12, .w 13, .w 14, .j 15] (.r 16 (.m 17 .nil)) ap11 ap11 (fun _ _ _ _ _ h => h) ?_
 clear st2
 refine b0p rfl rfl rfl f0w (cw 4 0) rfl ?_
 try simp only [clL]
 refine a0d rfl rfl rfl (fun _ => rfl) (cw 4 (kN x)) (fun wx hS => St.rangeL hS 0 rfl 0 _ dZl) Tryz.underlying68 rfl ap11 ?_
 try simp only [clL]
 refine a0d rfl rfl rfl (fun _ => rfl) (cw 4 (kN x)) (fun wx hS => St.rangeL hS 0 rfl 0 _ dZl) Tryz.underlying68 rfl ap11 ?_
 try simp only [clL]
 refine a0d rfl rfl rfl (fun _ => rfl) (cw 4 (kN x)) (fun wx hS => St.rangeL hS 0 rfl 0 _ dZl) Tryz.underlying68 rfl ap11 ?_
 try simp only [clL]
 refine a0c rfl rfl rfl Tryz.call122 (fun w hS hR => a0H _) (fun _ => rfl) ?_
 try simp only [clL]
 refine a0c rfl rfl rfl Tryz.call122 (fun w hS hR => a0H _) (fun _ => rfl) ?_
 try simp only [clL]
 refine a0c rfl rfl rfl Tryz.call122 (fun w hS hR => a0H _) (fun _ => rfl) ?_
 try simp only [clL]
 refine a0c rfl rfl rfl Tryz.call122 (fun w hS hR => a0H _) (fun _ => rfl) ?_
 try simp only [clL]
 refine a0c rfl rfl rfl Tryz.call54 (fun w hS hR => d0P x x xx Hxx.out _) (fun _ => rfl) ?_
 try simp only [clL]
 refine a0c rfl rfl rfl Tryz.call54 (fun w hS hR => d0P xx x x3 Hx3.out _) (fun _ => rfl) ?_
 try simp only [clL]
 refine a0c rfl rfl rfl Tryz.call152 (fun w hS hR => t0M _) (fun _ => rfl) ?_
 try simp only [clL]
 refine a0c rfl rfl rfl Tryz.call53 (fun w hS hR => z0L x3 7 cv Hcv.out _) (fun _ => rfl) ?_
 try simp only [clL]
 refine a0c rfl rfl rfl Tryz.call183 (fun w hS hR => z0N (kN cv) (o0j _) HR.out _) (fun _ => rfl) ?_
 try simp only [clL]
 iterate 3 (refine a0p rfl rfl apX ?_; try simp only [clL])
 refine b0q List.mem_cons_self fun g4 => ?_
 simp only [upd, reduceIte]
 refine a0v fun xq w3 st3 hR => ?_
 try dsimp only
 clear hR xq
 refine a0y rfl rfl ?_
 refine a0h st3 2 rfl rfl rfl rfl ap10 ap11 (a0g _ _) ?_
 intro w4 st4
 repeat (first | simp only [List.cons_append] at st4 | simp only [List.nil_append] at st4 | simp only [List.set_cons_succ] at st4 | simp only [List.set_cons_zero] at st4)
 clear st3
 refine ⟨by first | exact st4 | exact St.less st4 ap14, ?_⟩
 try simp only [Act.put]
 refine a0r rfl rfl ?_
 go_simp
 try simp only [clL]
 refine a0j ?_
 refine NoPanic.normal ?_
 go_wp2_with fail
 refine wp_region_noPanic ?_
 refine a0f st4 5 [.t 0, .t 1, .w 4, .c 2, .w 3] (.m 5 (.w 6 .nil)) ap11 ap11 (fun _ _ _ _ _ h => h) ?_
 clear st4
 refine a0d rfl rfl rfl (fun _ => rfl) (cw 4 (kN x)) (fun wx hS => St.rangeL hS 0 rfl 0 _ dZl) Tryz.underlying68 rfl ap11 ?_
 try simp only [clL]
 refine a0d rfl rfl rfl (fun _ => rfl) (cw 4 (kN 0)) (fun wx hS => St.rangeL hS 2 rfl 0 _ dZl) Tryz.underlying68 rfl ap11 ?_
 try simp only [clL]
 refine a0p rfl rfl apX ?_
 try simp only [clL]
 refine a0c rfl rfl rfl Tryz.call152 (fun w hS hR => o0l _) (fun _ => rfl) ?_
 try simp only [clL]
 refine a0p rfl rfl (fun _ => b0f rfl _ (g0H _ _ _)) ?_
 try simp only [clL]
 refine a0v fun xq w5 st5 hR => ?_
 try dsimp only
 clear hR xq
 refine a0r rfl rfl ?_
 refine a0h st5 1 rfl rfl rfl rfl ap10 ap11 (a0Q _ _ _) ?_
 intro w6 st6
 try simp only [List.set_cons_zero, List.set_cons_succ] at st6
 clear st5
 try simp only [Act.put]
 refine a0k rfl rfl apW ?_
 try simp only [clL]
 refine a0j ?_
 refine NoPanic.normal ?_
 have hr := st6.at 1 rfl
 have hfr := st6.fr
 clear st6
 go_wp2_with fail
 exact bodyPost_ret (a0x rfl rfl hr Tryz.underlying76 rfl ap11 rfl) rfl ⟨rfl, hfr⟩
end Go.Proofs.YtmebmhjppmfbbaaGreat


set_option maxHeartbeats 16000000
set_option maxRecDepth 1000000
namespace Go.Mv
open Go.RowKit
section
variable {P : Program} {Q : Exit → Act → World → Prop} {Sx : World → Prop} {S : Nat → Prop} {w0 : World} {tl : Pl} {l : List Oper} {i : Nat} {s : List LS} {Γ : List Flt} {BL : List Blk} {R : World → Prop} {A : (Nat → Value) → Act} {o : Oper}
theorem t0X {parts : Array (Nat × Operand)} {ρ : Operand → Value} {M : List (Nat × Value)} (h : (parts.toList.map fun p => (p.1, ρ p.2)) = M) : (parts.map fun (i, x) => (i, ρ x)) = M.toArray := by
 apply Array.toList_inj.1
 rw [Array.toList_map, ← h]
theorem z0R {t e : TypeId} {k : Nat} {M : List (Nat × Value)} (hu : P.underlying t = some (.slice e)) {z : Value} {sz by_ : Nat} (hi0 : (P.info? e).map (fun i => (i.zero, i.size, i.bytes)) = some (some z, sz, by_)) (vs : List Value) (hp : M = (vs.zipIdx 0).map fun x => (x.2, x.1))
  (hv : ∀ v ∈ vs, v.cells.size = sz) (hk : vs.length = k) (L : List Value) (hL : (vs.flatMap fun v => v.cells.toList) = L) (hk0 : 0 < k * sz := by decide) (hk24 : k * sz ≤ 16777216 := by decide) :
  Mk P (do pure (.value (← Instr.buildSlice t k M.toArray))) (fun g => .slice (some ⟨g, 0, none⟩) k k) L e := by
 intro w
 obtain ⟨i, hi, hz0⟩ : ∃ i, P.info? e = some i ∧ (i.zero, i.size, i.bytes) = (some z, sz, by_) := by simpa using hi0
 simp only [Prod.mk.injEq] at hz0
 obtain ⟨hz1, hsz, hby⟩ := hz0
 have hs0 : 0 < sz := Nat.pos_of_mul_pos_left hk0
 have hf : Instr.fill (fun j => some (j * i.size, i.size)) ((Array.range (k * i.size)).map (z.cells[· % z.cells.size]!)) M = some L.toArray := by
  rw [hp, hsz, ← hL]
  exact Great.fill_whole hs0 vs _ hv (by simp [hk])
 refine ⟨w.heap.size, w.alloc (.cells L.toArray e), ?_, (Fr.refl _ w).alloc _, Nat.le_refl _, Has.new w L.toArray e⟩
 simp only [Sem.run_bind, run_buildSlice w t e k M.toArray L.toArray i z hu hi hz1 (by rw [hsz]; omega) (by rw [hsz]; omega) (by simpa using hf), Result.andThen_ok, Sem.run_pure]
theorem j0j {id : Nat} {a : Act} {w : World} (hst : St S w0 w BL) (R : World → Prop) (hR : R w.drew) (hRm : ∀ w w', R w → Fr Nob w w' → R w') (m : Nat) (s : List LS) (tl : Pl) (hm : P.follows .mixedOrders = true) (hB : p0m l.toArray m s tl = true)
  (hQ : ∀ c (d : Option Tmp) v a w, Q (.panic c) (Act.put a d v) w → Q (.panic c) a w)
  (h : Lad P l.toArray Q (fun w => St S w0 w BL) S w0 tl s [] BL R (fun _ => a)) : (Code.region id l.toArray true).wp P Q a w := by
 simp only [p0m, Bool.and_eq_true, decide_eq_true_eq] at hB
 obtain ⟨⟨⟨hsel, hms⟩, hlen⟩, hok⟩ := hB
 have hmk : e0E (Array.replicate l.toArray.size false) (List.map Prod.fst ([] : List (Nat × Value × Blk))) = Array.replicate l.toArray.size false := by
  refine f0d (b0s _ _) fun k hk => ?_
  rw [c0y _ _ _ (by simpa [b0s] using hk)]; simp
 have inv0 : Cl .any l.toArray (Array.replicate l.toArray.size false) :=
  ⟨by simp, fun j oj _ hl => (by rw [getD_replicate_false] at hl; cases hl)⟩
 have H := j0J (md := .any) (Sx := fun w => St S w0 w BL) hsel hms hQ (l.toArray.size + s.length) l.toArray.size s [] (Array.replicate l.toArray.size false) [] (fun _ => undef) w.drew BL R (fun _ => a)
  (Nat.le_refl _) (by simp [hlen]) ap14 ap14 ap14 (by rw [hmk]; exact inv0) hok ap14 ⟨by simp, by simp, by simp, fun _ _ _ _ => rfl⟩ ap14 (by simpa using hst.drew) hR hRm (fun _ h => h) h
 rw [hmk] at H
 exact wp_region_any hm (d0C _ _ _ _ H)
end
end Go.Mv


set_option maxHeartbeats 16000000
set_option maxRecDepth 1000000
namespace Go.Proofs.YtmebmhjppmfbbaaGreat
open Go.RowKit Go.Mv Mvp Mvq
theorem w0L : beN [121, 190, 102, 126, 249, 220, 187, 172, 85, 160, 98, 149, 206, 135, 11, 7, 2, 155, 252, 219, 45, 206, 40, 217, 89, 242, 129, 91, 22, 248, 23, 152] = gXn := by decide
theorem D0x (w : World) : Calls Tryz.prog 168 #[.string ⟨#[121, 190, 102, 126, 249, 220, 187, 172, 85, 160, 98, 149, 206, 135, 11, 7, 2, 155, 252, 219, 45, 206, 40, 217, 89, 242, 129, 91, 22, 248, 23, 152]⟩] w fun e w' => e = .returned (i4 (kN (kc gXn))) ∧ Fr Nob w w' := by
 have h := x0y ⟨#[121, 190, 102, 126, 249, 220, 187, 172, 85, 160, 98, 149, 206, 135, 11, 7, 2, 155, 252, 219, 45, 206, 40, 217, 89, 242, 129, 91, 22, 248, 23, 152]⟩ w ap12
 have e : beN [121, 190, 102, 126, 249, 220, 187, 172, 85, 160, 98, 149, 206, 135, 11, 7, 2, 155, 252, 219, 45, 206, 40, 217, 89, 242, 129, 91, 22, 248, 23, 152] = kN (kc gXn) := by rw [w0L]; decide
 rw [← e]
 exact h
theorem o0r : gYn % fP = gYn ∧ gYn % 2 = 0 ∧ gYn < fP := by decide
theorem D0m : b0Q fP (kN (kc gXn * kc gXn * kc gXn + 7)) = true ∧ kc (rtV fP (kN (kc gXn * kc gXn * kc gXn + 7))) = kc gYn := by
 have hb : kc gYn * kc gYn = kc gXn * kc gXn * kc gXn + 7 := k0X
 rw [← hb]
 have e : kN (kc gYn * kc gYn) = gYn * gYn % fP := by rw [← a0F, m0S]
 have fp : FP fP := by rw [← s0T]; exact C0O
 have h4 : fP % 4 = 3 := by decide
 have ho := s0Y fp h4 o0r.2.2
 rw [e]
 refine ⟨ho, ?_⟩
 have hlt : gYn * gYn % fP < fP := Nat.mod_lt _ ap12
 have hsq := n0T fp hlt ho
 have hev := m0H fp (x := gYn * gYn % fP)
 have h2 := B0x fp.prime o0r.2.2 (Nat.mod_lt (rtV fP (gYn * gYn % fP)) (by decide : 0 < fP)) (by rw [hsq])
 have hy := o0r.2.1
 rcases h2 with h2 | h2
 ·rw [← e0o, h2]
 ·exfalso
  have h3 : (fP - gYn) % fP = fP - gYn := by decide
  rw [h2, h3] at hev
  have h5 : (fP - gYn) % 2 = 1 := by decide
  omega
noncomputable def o0s : RT := B0S (kc gXn) (kc gYn) k0X
theorem w0M : o0s.pt = .A (kc gXn) (kc gYn) := o0q _ _ _
theorem D0y (w : World) : Calls Tryz.prog 137 #[i4 (kN (kc gXn))] w fun e w' => e = .returned (.tuple #[.agg o0s.L.toArray, .bool true]) ∧ Fr Nob w w' := by
 have h := B0T (kc gXn) _ _ _ rfl rfl rfl D0m.1 w
 rw [D0m.2] at h
 exact h
theorem z0S : (List.replicate 33 (Value.int .u8 0)) = bs (List.replicate 33 0) := by rfl
attribute [local irreducible] a0E lw mix cw b0o b0x b0l a0L a0q beN b0F b0c b0z a0J a0N elN mdL b0e rtV b0Q kN kc c0E b0C f0E noR c0k f0P RT.L gXn gYn
theorem D0z (w : World) : Calls Tryz.prog 120 #[] w fun e w' => e = .returned (.agg o0s.L.toArray) ∧ Fr Nob w w' := by
 have st0 := St.start Nob w
 go_enter Tryz.func120, Tryz.ntmps120
 go_wp2_with (with_reducible refine wSk 0 ?_)
 refine a0a st0 rfl rfl (z := zAc) ap11 (cw 12 0) ap9 ?_
 intro g0 w1 st1
 clear st0
 go_wp2_with fail
 refine (D0x _).mono ?_
 rintro e' w2 ⟨rfl, hf2⟩
 have st2 := st1.keep hf2
 clear st1 hf2
 go_wp2_with (with_reducible refine wSk 1 ?_)
 refine a0a st2 rfl rfl (z := zAd) ap11 (cw 4 0) ap9 ?_
 intro g1 w3 st3
 clear st2
 go_wp2_with (with_reducible refine wSn ?_)
 refine a0b st3 1 rfl rfl rfl rfl rfl ap10 ap11 (a0g _ _) ?_
 intro w4 st4
 clear st3
 go_wp2_with (with_reducible refine wSk 6 ?_)
 refine a0i st4 1 rfl rfl rfl Tryz.underlying68 rfl ap11 ?_
 go_wp2_with fail
 refine (D0y _).mono ?_
 rintro e' w5 ⟨rfl, hf5⟩
 have st5 := st4.keep hf5
 clear st4 hf5
 go_wp2_with (with_reducible refine wSk 2 ?_)
 refine a0a st5 rfl rfl (z := zAc) ap11 (cw 12 0) ap9 ?_
 intro g2 w6 st6
 clear st5
 go_wp2_with (with_reducible refine wSn ?_)
 refine a0b st6 2 rfl rfl rfl rfl rfl (by first | (simp [a0e]; done) | (simp [RT.len]; done) | (simp [a0e, RT.len]; done) | simp [a0e, RT.len]) ap11 (RT.one _) ?_
 intro w7 st7
 clear st6
 go_wp2_with (with_reducible refine wSk 10 ?_)
 refine a0m st7 2 rfl rfl rfl Tryz.underlying76 rfl rfl ap11 ?_
 go_wp2_with (with_reducible refine wSn ?_)
 refine a0b st7 0 rfl rfl rfl rfl rfl (by first | (simp [a0e]; done) | (simp [RT.len]; done) | (simp [a0e, RT.len]; done) | simp [a0e, RT.len]) ap11 (RT.one _) ?_
 intro w8 st8
 clear st7
 have hr := st8.at 0 rfl
 have hfr := st8.fr
 clear st8
 go_wp2_with fail
 exact bodyPost_ret (a0t rfl rfl hr Tryz.underlying76 rfl ap11) rfl ⟨rfl, hfr⟩
end Go.Proofs.YtmebmhjppmfbbaaGreat
namespace Go.Proofs.YtmebmhjppmfbbaaGreat
open Go.RowKit Go.Mv Mvp Mvq
end Go.Proofs.YtmebmhjppmfbbaaGreat


set_option maxHeartbeats 16000000
set_option maxRecDepth 1000000
namespace Go.Proofs.YtmebmhjppmfbbaaGreat
open Go.RowKit Go.Mv Mvp Mvq
theorem d0M {o : Oper} {a : Act} {p q : Operand} {T U : TypeId} {s t : ByteArray} (ho : o.op = .binOp .eql T p q U) (hp : a.eval p = .string s) (hq : a.eval q = .string t) {b : Bool} (hb : decide (s = t) = b) (w : World) :
  (execOp a.eval o).run Tryz.prog w = .ok (.value (.bool b)) w := by
 subst hb
 exact e0n ho hp hq w (by go_simp) (by
  go_simp
  rw [Bool.eq_iff_iff, beq_iff_eq, decide_eq_true_eq, h0P, h0P]
  exact ⟨fun h => ByteArray.ext (Array.toList_inj.1 h), fun h => by rw [h]⟩)
attribute [local irreducible] a0E lw mix cw b0o b0x b0l a0L a0q beN b0F b0c b0z a0J a0N elN mdL b0e rtV b0Q kN kc c0E b0C f0E noR c0k f0P RT.L gXn gYn
theorem r0e (s : ByteArray) (hz : decide (s = (mkS (List.replicate 33 0))) = true) (w : World) : Calls Tryz.prog 73 #[.string s] w fun e w' => e = .returned (.tuple #[.agg noR.L.toArray, .bool true]) ∧ Fr Nob w w' := by
 have HZ := Lib.hid hz
 clear hz
 have st0 := St.start Nob w
 go_enter Tryz.func73, Tryz.ntmps73
 go_wp2_with (with_reducible refine wSk 2 ?_)
 refine a0a st0 rfl rfl (z := zAc) ap11 (cw 12 0) ap9 ?_
 intro g2 w1 st1
 clear st0
 go_wp2_with (with_reducible refine wSk 8 ?_)
 refine b0X rfl rfl Tryz.underlying22 b0y rfl rfl rfl 33 33 ap14 ap14 ap13 ap13 ap8 ?_
 intro w2 hg2 hf2 hz2
 clear hz2
 have st2 := st1.new hf2 hg2 (Nat.le_refl _)
 clear st1 hg2 hf2
 rw [z0S] at st2
 go_wp2_with (with_reducible refine wSk 9 ?_)
 refine c0l rfl rfl Tryz.underlying22 Tryz.underlying5 Tryz.underlying9 rfl (l := List.replicate 33 0) (Rd.whole (st2.at 1 rfl)) ?_
 have st3 := st2.less (List.sublist_append_left _ _)
 clear st2
 go_wp2_with (with_reducible refine wSk 10 ?_)
 refine c0Q rfl (d0M rfl rfl rfl HZ.out _) ?_
 go_wp2_with fail
 refine (t0T _).mono ?_
 rintro e' w4 ⟨rfl, hf4⟩
 have st4 := st3.keep hf4
 clear st3 hf4
 go_wp2_with (with_reducible refine wSn ?_)
 refine a0b st4 0 rfl rfl rfl rfl rfl (by first | (simp [a0e]; done) | (simp [RT.len]; done) | (simp [a0e, RT.len]; done) | simp [a0e, RT.len]) ap11 (RT.one _) ?_
 intro w5 st5
 clear st4
 have hr := st5.at 0 rfl
 have hfr := st5.fr
 clear st5
 go_wp2_with fail
 exact bodyPost_ret (a0x rfl rfl hr Tryz.underlying76 rfl ap11 rfl) rfl ⟨rfl, hfr⟩
theorem t0Y (s : ByteArray) (hz : decide (s = (mkS (List.replicate 33 0))) = false) (hl : ((s.size : Int) != 33) = true) (w : World) : Calls Tryz.prog 73 #[.string s] w fun e w' => e = .returned (.tuple #[rpV 0 0 0, .bool false]) ∧ Fr Nob w w' := by
 have HZ := Lib.hid hz
 clear hz
 have st0 := St.start Nob w
 go_enter Tryz.func73, Tryz.ntmps73
 go_wp2_with (with_reducible refine wSk 2 ?_)
 refine a0a st0 rfl rfl (z := zAc) ap11 (cw 12 0) ap9 ?_
 intro g2 w1 st1
 clear st0
 go_wp2_with (with_reducible refine wSk 8 ?_)
 refine b0X rfl rfl Tryz.underlying22 b0y rfl rfl rfl 33 33 ap14 ap14 ap13 ap13 ap8 ?_
 intro w2 hg2 hf2 hz2
 clear hz2
 have st2 := st1.new hf2 hg2 (Nat.le_refl _)
 clear st1 hg2 hf2
 rw [z0S] at st2
 go_wp2_with (with_reducible refine wSk 9 ?_)
 refine c0l rfl rfl Tryz.underlying22 Tryz.underlying5 Tryz.underlying9 rfl (l := List.replicate 33 0) (Rd.whole (st2.at 1 rfl)) ?_
 have st3 := st2.less (List.sublist_append_left _ _)
 clear st2
 go_wp2_with (with_reducible refine wSk 10 ?_)
 refine c0Q rfl (d0M rfl rfl rfl HZ.out _) ?_
 go_wp2_with (with_reducible refine wSk 25 ?_)
 refine a0X rfl rfl _ f0j ?_
 go_wp2_with (with_reducible refine wSn ?_)
 refine a0b st3 0 rfl rfl rfl rfl rfl ap10 ap11 (a0Q _ _ _) ?_
 intro w4 st4
 clear st3
 have hr := st4.at 0 rfl
 have hfr := st4.fr
 clear st4
 go_wp2_with fail
 exact bodyPost_ret (a0x rfl rfl hr Tryz.underlying76 rfl ap11 rfl) rfl ⟨by unfold rpV rpL; rw [i0V]; rfl, hfr⟩
theorem j0V (s : ByteArray) (hz : decide (s = (mkS (List.replicate 33 0))) = false) (hl : s.size = 33) (q : Nat) (hb : ∀ h : 0 < s.size, ((s[0]'h).toNat : Int) = (q : Int)) (h2 : ((q : Int) != 2) = true) (h3 : ((q : Int) != 3) = true) (w : World) : Calls Tryz.prog 73 #[.string s] w fun e w' => e = .returned (.tuple #[rpV 0 0 0, .bool false]) ∧ Fr Nob w w' := by
 have HZ := Lib.hid hz
 clear hz
 have hl33 : ((s.size : Int) != 33) = false := by rw [hl]; rfl
 have h0 : (0 : Int) < (s.size : Int) := by omega
 have h00 : 0 < s.size := by omega
 have h1 : (1 : Int) ≤ (s.size : Int) := by omega
 have hb0 := hb h00
 clear hl hb
 have st0 := St.start Nob w
 go_enter Tryz.func73, Tryz.ntmps73
 go_wp2_with (with_reducible refine wSk 2 ?_)
 refine a0a st0 rfl rfl (z := zAc) ap11 (cw 12 0) ap9 ?_
 intro g2 w1 st1
 clear st0
 go_wp2_with (with_reducible refine wSk 8 ?_)
 refine b0X rfl rfl Tryz.underlying22 b0y rfl rfl rfl 33 33 ap14 ap14 ap13 ap13 ap8 ?_
 intro w2 hg2 hf2 hz2
 clear hz2
 have st2 := st1.new hf2 hg2 (Nat.le_refl _)
 clear st1 hg2 hf2
 rw [z0S] at st2
 go_wp2_with (with_reducible refine wSk 9 ?_)
 refine c0l rfl rfl Tryz.underlying22 Tryz.underlying5 Tryz.underlying9 rfl (l := List.replicate 33 0) (Rd.whole (st2.at 1 rfl)) ?_
 have st3 := st2.less (List.sublist_append_left _ _)
 clear st2
 go_wp2_with (with_reducible refine wSk 10 ?_)
 refine c0Q rfl (d0M rfl rfl rfl HZ.out _) ?_
 go_wp2_with (with_reducible refine wSk 25 ?_)
 refine a0X rfl rfl _ f0j ?_
 go_wp2_with (with_reducible refine wSn ?_)
 refine a0b st3 0 rfl rfl rfl rfl rfl ap10 ap11 (a0Q _ _ _) ?_
 intro w4 st4
 clear st3
 have hr := st4.at 0 rfl
 have hfr := st4.fr
 clear st4
 go_wp2_with fail
 exact bodyPost_ret (a0x rfl rfl hr Tryz.underlying76 rfl ap11 rfl) rfl ⟨by unfold rpV rpL; rw [i0V]; rfl, hfr⟩
theorem r0f (s : ByteArray) (hz : decide (s = (mkS (List.replicate 33 0))) = false) (hl : s.size = 33) (hb : ∀ h : 0 < s.size, ((s[0]'h).toNat : Int) = 2) (hn : ∀ wx, Calls Tryz.prog 115 #[fv mP.M, .string (s.extract 1 s.size)] wx fun e w' => ∃ N : Nat, e = .returned (.tuple #[i4 N, .bool false]) ∧ True ∧ Fr Nob wx w') (w : World) : Calls Tryz.prog 73 #[.string s] w fun e w' => e = .returned (.tuple #[rpV 0 0 0, .bool false]) ∧ Fr Nob w w' := by
 have HZ := Lib.hid hz
 clear hz
 have hl33 : ((s.size : Int) != 33) = false := by rw [hl]; rfl
 have h0 : (0 : Int) < (s.size : Int) := by omega
 have h00 : 0 < s.size := by omega
 have h1 : (1 : Int) ≤ (s.size : Int) := by omega
 have hb0 := hb h00
 clear hl hb
 have HN := Lib.hid hn
 clear hn
 have st0 := St.start Nob w
 go_enter Tryz.func73, Tryz.ntmps73
 go_wp2_with (with_reducible refine wSk 2 ?_)
 refine a0a st0 rfl rfl (z := zAc) ap11 (cw 12 0) ap9 ?_
 intro g2 w1 st1
 clear st0
 go_wp2_with (with_reducible refine wSk 8 ?_)
 refine b0X rfl rfl Tryz.underlying22 b0y rfl rfl rfl 33 33 ap14 ap14 ap13 ap13 ap8 ?_
 intro w2 hg2 hf2 hz2
 clear hz2
 have st2 := st1.new hf2 hg2 (Nat.le_refl _)
 clear st1 hg2 hf2
 rw [z0S] at st2
 go_wp2_with (with_reducible refine wSk 9 ?_)
 refine c0l rfl rfl Tryz.underlying22 Tryz.underlying5 Tryz.underlying9 rfl (l := List.replicate 33 0) (Rd.whole (st2.at 1 rfl)) ?_
 have st3 := st2.less (List.sublist_append_left _ _)
 clear st2
 go_wp2_with (with_reducible refine wSk 10 ?_)
 refine c0Q rfl (d0M rfl rfl rfl HZ.out _) ?_
 go_wp2_with fail
 refine wp_region_noPanic ?_
 refine a0f st3 9 [.o 7, .w 1, .w 2, .c 0, .c 3, .w 4, .w 5, .w 6, .j 7] (.r 8 (.m 9 .nil)) ap11 ap11 (fun _ _ _ _ _ h => h) ?_
 clear st3
 refine b0p rfl rfl rfl f0w (cw 4 0) rfl ?_
 try simp only [clL]
 iterate 2 (refine a0p rfl rfl apX ?_; try simp only [clL])
 refine a0c rfl rfl rfl Tryz.call122 (fun w hS hR => a0H _) (fun _ => rfl) ?_
 try simp only [clL]
 refine d0g (X := Nat) (fun N => .tuple #[i4 N, .bool false]) (fun _ _ => True) (fun _ _ _ _ _ => trivial) rfl rfl rfl Tryz.call115 (fun w hS hR => HN.out _) (fun _ => rfl) fun N => ?_
 try simp only [clL]
 iterate 3 (refine a0p rfl rfl apX ?_; try simp only [clL])
 refine b0q List.mem_cons_self fun g4 => ?_
 simp only [upd, reduceIte]
 refine a0v fun xq w4 st4 hR => ?_
 try dsimp only
 clear hR xq
 refine a0y rfl rfl ?_
 refine a0h st4 1 rfl rfl rfl rfl ap10 ap11 (a0g _ _) ?_
 intro w5 st5
 repeat (first | simp only [List.cons_append] at st5 | simp only [List.nil_append] at st5 | simp only [List.set_cons_succ] at st5 | simp only [List.set_cons_zero] at st5)
 clear st4
 refine ⟨by first | exact st5 | exact St.less st5 ap14, ?_⟩
 try simp only [Act.put]
 refine a0r rfl rfl ?_
 go_simp
 try simp only [clL]
 refine a0j ?_
 refine NoPanic.normal ?_
 go_wp2_with (with_reducible refine wSk 35 ?_)
 refine a0X rfl rfl _ f0j ?_
 go_wp2_with (with_reducible refine wSn ?_)
 refine a0b st5 0 rfl rfl rfl rfl rfl ap10 ap11 (a0Q _ _ _) ?_
 intro w6 st6
 clear st5
 have hr := st6.at 0 rfl
 have hfr := st6.fr
 clear st6
 go_wp2_with fail
 exact bodyPost_ret (a0x rfl rfl hr Tryz.underlying76 rfl ap11 rfl) rfl ⟨by unfold rpV rpL; rw [i0V]; rfl, hfr⟩
theorem m0W (s : ByteArray) (hz : decide (s = (mkS (List.replicate 33 0))) = false) (hl : s.size = 33) (hb : ∀ h : 0 < s.size, ((s[0]'h).toNat : Int) = 2) (X Y : K) (b : Bool) (hn : ∀ wx, Calls Tryz.prog 115 #[fv mP.M, .string (s.extract 1 s.size)] wx fun e w' => e = .returned (.tuple #[i4 (kN X), .bool true]) ∧ Fr Nob wx w') (ha : ∀ wx, Calls Tryz.prog 137 #[i4 (kN X)] wx fun e w' => e = .returned (.tuple #[rpV X Y 1, .bool b]) ∧ Fr Nob wx w') (w : World) : Calls Tryz.prog 73 #[.string s] w fun e w' => e = .returned (.tuple #[rpV X Y 1, .bool b]) ∧ Fr Nob w w' := by
 have HZ := Lib.hid hz
 clear hz
 have hl33 : ((s.size : Int) != 33) = false := by rw [hl]; rfl
 have h0 : (0 : Int) < (s.size : Int) := by omega
 have h00 : 0 < s.size := by omega
 have h1 : (1 : Int) ≤ (s.size : Int) := by omega
 have hb0 := hb h00
 clear hl hb
 have HN := Lib.hid hn
 unfold rpV rpL at ha
 have HAT := Lib.hid ha
 clear hn ha
 unfold rpV rpL
 have st0 := St.start Nob w
 go_enter Tryz.func73, Tryz.ntmps73
 go_wp2_with (with_reducible refine wSk 2 ?_)
 refine a0a st0 rfl rfl (z := zAc) ap11 (cw 12 0) ap9 ?_
 intro g2 w1 st1
 clear st0
 go_wp2_with (with_reducible refine wSk 8 ?_)
 refine b0X rfl rfl Tryz.underlying22 b0y rfl rfl rfl 33 33 ap14 ap14 ap13 ap13 ap8 ?_
 intro w2 hg2 hf2 hz2
 clear hz2
 have st2 := st1.new hf2 hg2 (Nat.le_refl _)
 clear st1 hg2 hf2
 rw [z0S] at st2
 go_wp2_with (with_reducible refine wSk 9 ?_)
 refine c0l rfl rfl Tryz.underlying22 Tryz.underlying5 Tryz.underlying9 rfl (l := List.replicate 33 0) (Rd.whole (st2.at 1 rfl)) ?_
 have st3 := st2.less (List.sublist_append_left _ _)
 clear st2
 go_wp2_with (with_reducible refine wSk 10 ?_)
 refine c0Q rfl (d0M rfl rfl rfl HZ.out _) ?_
 go_wp2_with fail
 refine wp_region_noPanic ?_
 refine a0f st3 9 [.o 7, .w 1, .w 2, .c 0, .c 3, .w 4, .w 5, .w 6, .j 7] (.r 8 (.m 9 .nil)) ap11 ap11 (fun _ _ _ _ _ h => h) ?_
 clear st3
 refine b0p rfl rfl rfl f0w (cw 4 0) rfl ?_
 try simp only [clL]
 iterate 2 (refine a0p rfl rfl apX ?_; try simp only [clL])
 refine a0c rfl rfl rfl Tryz.call122 (fun w hS hR => a0H _) (fun _ => rfl) ?_
 try simp only [clL]
 refine a0c rfl rfl rfl Tryz.call115 (fun w hS hR => HN.out _) (fun _ => rfl) ?_
 try simp only [clL]
 iterate 3 (refine a0p rfl rfl apX ?_; try simp only [clL])
 refine b0q List.mem_cons_self fun g4 => ?_
 simp only [upd, reduceIte]
 refine a0v fun xq w4 st4 hR => ?_
 try dsimp only
 clear hR xq
 refine a0y rfl rfl ?_
 refine a0h st4 1 rfl rfl rfl rfl ap10 ap11 (a0g _ _) ?_
 intro w5 st5
 repeat (first | simp only [List.cons_append] at st5 | simp only [List.nil_append] at st5 | simp only [List.set_cons_succ] at st5 | simp only [List.set_cons_zero] at st5)
 clear st4
 refine ⟨by first | exact st5 | exact St.less st5 ap14, ?_⟩
 try simp only [Act.put]
 refine a0r rfl rfl ?_
 go_simp
 try simp only [clL]
 refine a0j ?_
 refine NoPanic.normal ?_
 go_wp2_with (with_reducible refine wSk 37 ?_)
 refine a0i st5 1 rfl rfl rfl Tryz.underlying68 rfl ap11 ?_
 go_wp2_with fail
 refine (HAT.out _).mono ?_
 rintro e' w6 ⟨rfl, hf6⟩
 have st6 := st5.keep hf6
 clear st5 hf6
 go_wp2_with (with_reducible refine wSk 6 ?_)
 refine a0a st6 rfl rfl (z := zAc) ap11 (cw 12 0) ap9 ?_
 intro g6 w7 st7
 clear st6
 go_wp2_with (with_reducible refine wSn ?_)
 refine a0b st7 2 rfl rfl rfl rfl rfl ap10 ap11 (a0Q _ _ _) ?_
 intro w8 st8
 clear st7
 go_wp2_with (with_reducible refine wSk 46 ?_)
 refine a0m st8 2 rfl rfl rfl Tryz.underlying76 rfl rfl ap11 ?_
 go_wp2_with (with_reducible refine wSn ?_)
 refine a0b st8 0 rfl rfl rfl rfl rfl ap10 ap11 (a0Q _ _ _) ?_
 intro w9 st9
 clear st8
 have hr := st9.at 0 rfl
 have hfr := st9.fr
 clear st9
 go_wp2_with fail
 exact bodyPost_ret (a0x rfl rfl hr Tryz.underlying76 rfl ap11 rfl) rfl ⟨rfl, hfr⟩
theorem B0U (x y z : K) (w : World) : Calls Tryz.prog 78 #[.agg (cw 4 (kN x) ++ (cw 4 (kN y) ++ cw 4 (kN z))).toArray] w fun e w' => e = .returned (.agg (cw 4 (kN x) ++ (cw 4 (kN (-y)) ++ cw 4 (kN z))).toArray) ∧ Fr Nob w w' := w0J x y z _ rfl w
theorem r0g (s : ByteArray) (hz : decide (s = (mkS (List.replicate 33 0))) = false) (hl : s.size = 33) (hb : ∀ h : 0 < s.size, ((s[0]'h).toNat : Int) = 3) (hn : ∀ wx, Calls Tryz.prog 115 #[fv mP.M, .string (s.extract 1 s.size)] wx fun e w' => ∃ N : Nat, e = .returned (.tuple #[i4 N, .bool false]) ∧ True ∧ Fr Nob wx w') (w : World) : Calls Tryz.prog 73 #[.string s] w fun e w' => e = .returned (.tuple #[rpV 0 0 0, .bool false]) ∧ Fr Nob w w' := by
 have HZ := Lib.hid hz
 clear hz
 have hl33 : ((s.size : Int) != 33) = false := by rw [hl]; rfl
 have h0 : (0 : Int) < (s.size : Int) := by omega
 have h00 : 0 < s.size := by omega
 have h1 : (1 : Int) ≤ (s.size : Int) := by omega
 have hb0 := hb h00
 clear hl hb
 have HN := Lib.hid hn
 clear hn
 have st0 := St.start Nob w
 go_enter Tryz.func73, Tryz.ntmps73
 go_wp2_with (with_reducible refine wSk 2 ?_)
 refine a0a st0 rfl rfl (z := zAc) ap11 (cw 12 0) ap9 ?_
 intro g2 w1 st1
 clear st0
 go_wp2_with (with_reducible refine wSk 8 ?_)
 refine b0X rfl rfl Tryz.underlying22 b0y rfl rfl rfl 33 33 ap14 ap14 ap13 ap13 ap8 ?_
 intro w2 hg2 hf2 hz2
 clear hz2
 have st2 := st1.new hf2 hg2 (Nat.le_refl _)
 clear st1 hg2 hf2
 rw [z0S] at st2
 go_wp2_with (with_reducible refine wSk 9 ?_)
 refine c0l rfl rfl Tryz.underlying22 Tryz.underlying5 Tryz.underlying9 rfl (l := List.replicate 33 0) (Rd.whole (st2.at 1 rfl)) ?_
 have st3 := st2.less (List.sublist_append_left _ _)
 clear st2
 go_wp2_with (with_reducible refine wSk 10 ?_)
 refine c0Q rfl (d0M rfl rfl rfl HZ.out _) ?_
 go_wp2_with fail
 refine wp_region_noPanic ?_
 refine a0f st3 9 [.o 7, .w 1, .w 2, .c 0, .c 3, .w 4, .w 5, .w 6, .j 7] (.r 8 (.m 9 .nil)) ap11 ap11 (fun _ _ _ _ _ h => h) ?_
 clear st3
 refine b0p rfl rfl rfl f0w (cw 4 0) rfl ?_
 try simp only [clL]
 iterate 2 (refine a0p rfl rfl apX ?_; try simp only [clL])
 refine a0c rfl rfl rfl Tryz.call122 (fun w hS hR => a0H _) (fun _ => rfl) ?_
 try simp only [clL]
 refine d0g (X := Nat) (fun N => .tuple #[i4 N, .bool false]) (fun _ _ => True) (fun _ _ _ _ _ => trivial) rfl rfl rfl Tryz.call115 (fun w hS hR => HN.out _) (fun _ => rfl) fun N => ?_
 try simp only [clL]
 iterate 3 (refine a0p rfl rfl apX ?_; try simp only [clL])
 refine b0q List.mem_cons_self fun g4 => ?_
 simp only [upd, reduceIte]
 refine a0v fun xq w4 st4 hR => ?_
 try dsimp only
 clear hR xq
 refine a0y rfl rfl ?_
 refine a0h st4 1 rfl rfl rfl rfl ap10 ap11 (a0g _ _) ?_
 intro w5 st5
 repeat (first | simp only [List.cons_append] at st5 | simp only [List.nil_append] at st5 | simp only [List.set_cons_succ] at st5 | simp only [List.set_cons_zero] at st5)
 clear st4
 refine ⟨by first | exact st5 | exact St.less st5 ap14, ?_⟩
 try simp only [Act.put]
 refine a0r rfl rfl ?_
 go_simp
 try simp only [clL]
 refine a0j ?_
 refine NoPanic.normal ?_
 go_wp2_with (with_reducible refine wSk 35 ?_)
 refine a0X rfl rfl _ f0j ?_
 go_wp2_with (with_reducible refine wSn ?_)
 refine a0b st5 0 rfl rfl rfl rfl rfl ap10 ap11 (a0Q _ _ _) ?_
 intro w6 st6
 clear st5
 have hr := st6.at 0 rfl
 have hfr := st6.fr
 clear st6
 go_wp2_with fail
 exact bodyPost_ret (a0x rfl rfl hr Tryz.underlying76 rfl ap11 rfl) rfl ⟨by unfold rpV rpL; rw [i0V]; rfl, hfr⟩
theorem m0X (s : ByteArray) (hz : decide (s = (mkS (List.replicate 33 0))) = false) (hl : s.size = 33) (hb : ∀ h : 0 < s.size, ((s[0]'h).toNat : Int) = 3) (X Y : K) (b : Bool) (hn : ∀ wx, Calls Tryz.prog 115 #[fv mP.M, .string (s.extract 1 s.size)] wx fun e w' => e = .returned (.tuple #[i4 (kN X), .bool true]) ∧ Fr Nob wx w') (ha : ∀ wx, Calls Tryz.prog 137 #[i4 (kN X)] wx fun e w' => e = .returned (.tuple #[rpV X Y 1, .bool b]) ∧ Fr Nob wx w') (w : World) : Calls Tryz.prog 73 #[.string s] w fun e w' => e = .returned (.tuple #[rpV X (-Y) 1, .bool b]) ∧ Fr Nob w w' := by
 have HZ := Lib.hid hz
 clear hz
 have hl33 : ((s.size : Int) != 33) = false := by rw [hl]; rfl
 have h0 : (0 : Int) < (s.size : Int) := by omega
 have h00 : 0 < s.size := by omega
 have h1 : (1 : Int) ≤ (s.size : Int) := by omega
 have hb0 := hb h00
 clear hl hb
 have HN := Lib.hid hn
 unfold rpV rpL at ha
 have HAT := Lib.hid ha
 clear hn ha
 unfold rpV rpL
 have st0 := St.start Nob w
 go_enter Tryz.func73, Tryz.ntmps73
 go_wp2_with (with_reducible refine wSk 2 ?_)
 refine a0a st0 rfl rfl (z := zAc) ap11 (cw 12 0) ap9 ?_
 intro g2 w1 st1
 clear st0
 go_wp2_with (with_reducible refine wSk 8 ?_)
 refine b0X rfl rfl Tryz.underlying22 b0y rfl rfl rfl 33 33 ap14 ap14 ap13 ap13 ap8 ?_
 intro w2 hg2 hf2 hz2
 clear hz2
 have st2 := st1.new hf2 hg2 (Nat.le_refl _)
 clear st1 hg2 hf2
 rw [z0S] at st2
 go_wp2_with (with_reducible refine wSk 9 ?_)
 refine c0l rfl rfl Tryz.underlying22 Tryz.underlying5 Tryz.underlying9 rfl (l := List.replicate 33 0) (Rd.whole (st2.at 1 rfl)) ?_
 have st3 := st2.less (List.sublist_append_left _ _)
 clear st2
 go_wp2_with (with_reducible refine wSk 10 ?_)
 refine c0Q rfl (d0M rfl rfl rfl HZ.out _) ?_
 go_wp2_with fail
 refine wp_region_noPanic ?_
 refine a0f st3 9 [.o 7, .w 1, .w 2, .c 0, .c 3, .w 4, .w 5, .w 6, .j 7] (.r 8 (.m 9 .nil)) ap11 ap11 (fun _ _ _ _ _ h => h) ?_
 clear st3
 refine b0p rfl rfl rfl f0w (cw 4 0) rfl ?_
 try simp only [clL]
 iterate 2 (refine a0p rfl rfl apX ?_; try simp only [clL])
 refine a0c rfl rfl rfl Tryz.call122 (fun w hS hR => a0H _) (fun _ => rfl) ?_
 try simp only [clL]
 refine a0c rfl rfl rfl Tryz.call115 (fun w hS hR => HN.out _) (fun _ => rfl) ?_
 try simp only [clL]
 iterate 3 (refine a0p rfl rfl apX ?_; try simp only [clL])
 refine b0q List.mem_cons_self fun g4 => ?_
 simp only [upd, reduceIte]
 refine a0v fun xq w4 st4 hR => ?_
 try dsimp only
 clear hR xq
 refine a0y rfl rfl ?_
 refine a0h st4 1 rfl rfl rfl rfl ap10 ap11 (a0g _ _) ?_
 intro w5 st5
 repeat (first | simp only [List.cons_append] at st5 | simp only [List.nil_append] at st5 | simp only [List.set_cons_succ] at st5 | simp only [List.set_cons_zero] at st5)
 clear st4
 refine ⟨by first | exact st5 | exact St.less st5 ap14, ?_⟩
 try simp only [Act.put]
 refine a0r rfl rfl ?_
 go_simp
 try simp only [clL]
 refine a0j ?_
 refine NoPanic.normal ?_
 go_wp2_with (with_reducible refine wSk 37 ?_)
 refine a0i st5 1 rfl rfl rfl Tryz.underlying68 rfl ap11 ?_
 go_wp2_with fail
 refine (HAT.out _).mono ?_
 rintro e' w6 ⟨rfl, hf6⟩
 have st6 := st5.keep hf6
 clear st5 hf6
 go_wp2_with (with_reducible refine wSk 6 ?_)
 refine a0a st6 rfl rfl (z := zAc) ap11 (cw 12 0) ap9 ?_
 intro g6 w7 st7
 clear st6
 go_wp2_with (with_reducible refine wSn ?_)
 refine a0b st7 2 rfl rfl rfl rfl rfl ap10 ap11 (a0Q _ _ _) ?_
 intro w8 st8
 clear st7
 go_wp2_with (with_reducible refine wSk 44 ?_)
 refine a0m st8 2 rfl rfl rfl Tryz.underlying76 rfl rfl ap11 ?_
 go_wp2_with fail
 refine (B0U X Y 1 _).mono ?_
 rintro e' w9 ⟨rfl, hf9⟩
 have st9 := st8.keep hf9
 clear st8 hf9
 go_wp2_with (with_reducible refine wSn ?_)
 refine a0b st9 2 rfl rfl rfl rfl rfl ap10 ap11 (a0Q _ _ _) ?_
 intro w10 st10
 clear st9
 go_wp2_with (with_reducible refine wSk 46 ?_)
 refine a0m st10 2 rfl rfl rfl Tryz.underlying76 rfl rfl ap11 ?_
 go_wp2_with (with_reducible refine wSn ?_)
 refine a0b st10 0 rfl rfl rfl rfl rfl ap10 ap11 (a0Q _ _ _) ?_
 intro w11 st11
 clear st10
 have hr := st11.at 0 rfl
 have hfr := st11.fr
 clear st11
 go_wp2_with fail
 exact bodyPost_ret (a0x rfl rfl hr Tryz.underlying76 rfl ap11 rfl) rfl ⟨rfl, hfr⟩
end Go.Proofs.YtmebmhjppmfbbaaGreat


set_option maxHeartbeats 16000000
set_option maxRecDepth 1000000
namespace Go.Proofs.YtmebmhjppmfbbaaGreat
open Go.RowKit Go.Mv Mvp Mvq
theorem t0Z (l : List UInt8) (a : Nat) : l.foldl (fun a x => a * 256 + x.toNat) a = a * 256 ^ l.length + beN l := by
 unfold beN
 induction l generalizing a with
 | nil => simp
 | cons x l ih =>
  rw [List.foldl_cons, List.foldl_cons, ih, ih (0 * 256 + x.toNat), List.length_cons, Nat.pow_succ]
  rw [Nat.zero_mul, Nat.zero_add, Nat.add_mul, Nat.mul_assoc, Nat.mul_comm 256]
  omega
theorem beN_cons (x : UInt8) (l : List UInt8) : beN (x :: l) = x.toNat * 256 ^ l.length + beN l := by
 have h := t0Z l (0 * 256 + x.toNat)
 rw [Nat.zero_mul, Nat.zero_add] at h
 show List.foldl _ 0 (x :: l) = _
 rw [List.foldl_cons, Nat.zero_mul, Nat.zero_add]
 exact h
theorem beN_zero : ∀ l : List UInt8, beN l = 0 → l = List.replicate l.length 0
 | [], _ => rfl
 | x :: l, h => by
  rw [beN_cons] at h
  have h1 : x.toNat * 256 ^ l.length = 0 := by omega
  have h2 : beN l = 0 := by omega
  have hx : x = 0 := by
   rcases Nat.mul_eq_zero.1 h1 with h | h
   ·exact UInt8.toNat_inj.1 (by rw [h]; rfl)
   ·exact absurd h (Nat.pos_iff_ne_zero.1 (Nat.pow_pos ap12))
  have ih := beN_zero l h2
  rw [List.length_cons, List.replicate_succ, ← ih, hx]
theorem mkS_inj {l m : List UInt8} (h : mkS l = mkS m) : l = m := by
 have := congrArg (fun s : ByteArray => s.data.toList) h
 simpa [mkS] using this
theorem f0k (l : List UInt8) (q : Nat) (h : (l.getD 0 0).toNat = q) (h0 : 0 < (mkS l).size) : (((mkS l)[0]'h0).toNat : Int) = (q : Int) := by
 have h1 : 0 < l.length := by rwa [a0A] at h0
 have : ((mkS l)[0]'h0) = l.getD 0 0 := by
  show (mkS l).data[0] = _
  simp [mkS, List.getD_eq_getElem?_getD, h1]
 rw [this, h]
theorem p0H (l : List UInt8) : ((mkS l).extract 1 (mkS l).size).data.toList = l.drop 1 := by
 rw [a0A]
 simp [mkS]
 exact List.take_of_length_le ap14
theorem r0h : b0D (List.replicate 33 0) = true := by decide
attribute [local irreducible] rtV b0Q rpL e0I beN b0c
theorem p0I (l : List UInt8) (h33 : l.length = 33) : b0e mP ((mkS l).extract 1 (mkS l).size).data.toList = decide (tlN l < fP) := by
 rw [p0H]
 unfold b0e tlN
 rw [List.length_drop, h33, mPM]
 rfl
theorem p0J (l : List UInt8) (h33 : l.length = 33) (hlt : tlN l < fP) (w : World) :
  Calls Tryz.prog 115 #[fv mP.M, .string ((mkS l).extract 1 (mkS l).size)] w fun e w' => e = .returned (.tuple #[i4 (kN (kc (tlN l))), .bool true]) ∧ Fr Nob w w' := by
 have h := p0B mP c0w.lt ((mkS l).extract 1 (mkS l).size) w (by rw [p0I l h33]; simpa using hlt)
 rw [p0H] at h
 rw [m0S, Nat.mod_eq_of_lt hlt]
 exact h
theorem x0S (l : List UInt8) (h33 : l.length = 33) (hlt : ¬ tlN l < fP) (w : World) :
  Calls Tryz.prog 115 #[fv mP.M, .string ((mkS l).extract 1 (mkS l).size)] w fun e w' => ∃ N : Nat, e = .returned (.tuple #[i4 N, .bool false]) ∧ True ∧ Fr Nob w w' :=
 (p0C mP c0w.lt _ w (by rw [p0I l h33]; simpa using hlt)).mono fun e w' ⟨N, h1, h2⟩ => ⟨N, h1, trivial, h2⟩
theorem u0a (n : Nat) : kN (kc n * kc n * kc n + 7) = e0I n % fP := by rw [← n0U, m0S]
theorem B0V (n : Nat) (hr : b0Q fP (e0I n) = true) (w : World) : Calls Tryz.prog 137 #[i4 (kN (kc n))] w fun e w' => e = .returned (.tuple #[rpV (kc n) (kc (rtV fP (e0I n))) 1, .bool true]) ∧ Fr Nob w w' := by
 have h := B0T (kc n) _ _ _ rfl rfl rfl (by rw [u0a, p0F]; exact hr) w
 rw [u0a, z0Q] at h
 exact h
theorem B0W (n : Nat) (hr : b0Q fP (e0I n) = false) (w : World) : Calls Tryz.prog 137 #[i4 (kN (kc n))] w fun e w' => e = .returned (.tuple #[rpV (kc n) 0 1, .bool false]) ∧ Fr Nob w w' :=
 C0Y (kc n) _ _ _ rfl rfl rfl (by rw [u0a, p0F]; exact hr) w
theorem d0z {l : List UInt8} (h : l ≠ List.replicate 33 0) : decide (mkS l = mkS (List.replicate 33 0)) = false := by
 simpa using fun e => h (mkS_inj e)
theorem w0N {l : List UInt8} (h33 : l.length = 33) (h0 : l.getD 0 0 = 0) (ht : tlN l = 0) : l = List.replicate 33 0 := by
 cases l with
 | nil => cases h33
 | cons x l =>
  have hx : x = 0 := h0
  have hl := beN_zero l ht
  rw [List.length_cons] at h33
  rw [hx, hl, show l.length = 32 by omega]
  rfl
theorem h0b {l : List UInt8} (q : UInt8) (hq : q ≠ 0) (h : l.getD 0 0 = q) : l ≠ List.replicate 33 0 := by
 rintro rfl
 exact hq h.symm
theorem l0l (l : List UInt8) (h : b0D l = true) : ∃ r : RT, r.pt = c0r l ∧ ∀ w : World, Calls Tryz.prog 73 #[.string (mkS l)] w fun e w' => e = .returned (.tuple #[.agg r.L.toArray, .bool true]) ∧ Fr Nob w w' := by
 have hon := m0I h
 unfold b0D at h
 unfold c0r at *
 simp only [Bool.and_eq_true, decide_eq_true_eq] at h
 obtain ⟨h33, h⟩ := h
 by_cases h0 : l.getD 0 0 = 0
 ·rw [if_pos h0] at h
  refine ⟨noR, by rw [if_pos h0, x0Q], fun w => ?_⟩
  exact r0e (mkS l) (by rw [w0N h33 h0 (by simpa using h)]; simp) w
 ·rw [if_neg h0] at h hon
  simp only [Bool.and_eq_true, decide_eq_true_eq] at h
  obtain ⟨h23, hlt, hr⟩ := h
  rcases h23 with h2 | h3
  ·have h3 : ¬ l.getD 0 0 = 3 := by rw [h2]; decide
   rw [if_neg h3] at hon
   refine ⟨B0S _ _ hon, by rw [if_neg h0, if_neg h3, o0q], fun w => ?_⟩
   exact m0W (mkS l) (d0z (h0b 2 ap12 h2)) (by rw [a0A, h33]) (fun h => f0k l 2 (by rw [h2]; rfl) h) _ _ true (p0J l h33 hlt) (B0V _ hr) w
  ·rw [if_pos h3] at hon
   refine ⟨B0S _ _ hon, by rw [if_neg h0, if_pos h3, o0q], fun w => ?_⟩
   exact m0X (mkS l) (d0z (h0b 3 ap12 h3)) (by rw [a0A, h33]) (fun h => f0k l 3 (by rw [h3]; rfl) h) _ _ true (p0J l h33 hlt) (B0V _ hr) w
open Classical in
noncomputable def rdR (l : List UInt8) : RT := if h : b0D l = true then Classical.choose (l0l l h) else noR
theorem u0b {l : List UInt8} (h : b0D l = true) : (rdR l).pt = c0r l := by unfold rdR; rw [dif_pos h]; exact (Classical.choose_spec (l0l l h)).1
theorem p0K (l : List UInt8) (h : b0D l = true) (w : World) : Calls Tryz.prog 73 #[.string (mkS l)] w fun e w' => e = .returned (.tuple #[.agg (rdR l).L.toArray, .bool true]) ∧ Fr Nob w w' := by
 unfold rdR; rw [dif_pos h]; exact (Classical.choose_spec (l0l l h)).2 w
theorem z0T (s : ByteArray) (h : b0D s.data.toList = true) (w : World) : Calls Tryz.prog 73 #[.string s] w fun e w' => e = .returned (.tuple #[.agg (rdR s.data.toList).L.toArray, .bool true]) ∧ Fr Nob w w' := by
 have := p0K s.data.toList h w
 rwa [c0J] at this
theorem p0L (l : List UInt8) (h : b0D l = false) (w : World) : Calls Tryz.prog 73 #[.string (mkS l)] w fun e w' => ∃ X Y Z : K, e = .returned (.tuple #[rpV X Y Z, .bool false]) ∧ Fr Nob w w' := by
 by_cases h33 : l.length = 33
 ·by_cases h0 : l.getD 0 0 = 0
  ·have hz : l ≠ List.replicate 33 0 := by
    rintro rfl
    rw [r0h] at h
    cases h
   exact (j0V (mkS l) (d0z hz) (by rw [a0A, h33]) 0 (fun h => f0k l 0 (by rw [h0]; rfl) h) rfl rfl w).mono fun e w' k => ⟨0, 0, 0, k.1, k.2⟩
  ·by_cases h23 : l.getD 0 0 = 2 ∨ l.getD 0 0 = 3
   ·by_cases hlt : tlN l < fP
    ·have hr : b0Q fP (e0I (tlN l)) = false := by
      unfold b0D at h
      rw [if_neg h0, decide_eq_true h33, decide_eq_true h23, decide_eq_true hlt] at h
      simpa using h
     rcases h23 with h2 | h3
     ·exact (m0W (mkS l) (d0z (h0b 2 ap12 h2)) (by rw [a0A, h33]) (fun h => f0k l 2 (by rw [h2]; rfl) h) _ _ false (p0J l h33 hlt) (B0W _ hr) w).mono fun e w' k => ⟨_, _, _, k.1, k.2⟩
     ·exact (m0X (mkS l) (d0z (h0b 3 ap12 h3)) (by rw [a0A, h33]) (fun h => f0k l 3 (by rw [h3]; rfl) h) _ _ false (p0J l h33 hlt) (B0W _ hr) w).mono fun e w' k => ⟨_, _, _, k.1, k.2⟩
    ·rcases h23 with h2 | h3
     ·exact (r0f (mkS l) (d0z (h0b 2 ap12 h2)) (by rw [a0A, h33]) (fun h => f0k l 2 (by rw [h2]; rfl) h) (x0S l h33 hlt) w).mono fun e w' k => ⟨0, 0, 0, k.1, k.2⟩
     ·exact (r0g (mkS l) (d0z (h0b 3 ap12 h3)) (by rw [a0A, h33]) (fun h => f0k l 3 (by rw [h3]; rfl) h) (x0S l h33 hlt) w).mono fun e w' k => ⟨0, 0, 0, k.1, k.2⟩
   ·have hz : l ≠ List.replicate 33 0 := by
     rintro rfl
     exact h0 rfl
    have hne : (l.getD 0 0).toNat ≠ 2 ∧ (l.getD 0 0).toNat ≠ 3 := by
     refine ⟨fun e => h23 (.inl (UInt8.toNat_inj.1 (e.trans rfl))), fun e => h23 (.inr (UInt8.toNat_inj.1 (e.trans rfl)))⟩
    obtain ⟨q, hq⟩ : ∃ q, (l.getD 0 0).toNat = q := ⟨_, rfl⟩
    rw [hq] at hne
    exact (j0V (mkS l) (d0z hz) (by rw [a0A, h33]) q (fun h => f0k l q hq h) (by simp; omega) (by simp; omega) w).mono fun e w' k => ⟨0, 0, 0, k.1, k.2⟩
 ·have hz : l ≠ List.replicate 33 0 := by
   rintro rfl
   exact h33 ap14
  exact (t0Y (mkS l) (d0z hz) (by rw [a0A]; simp; omega) w).mono fun e w' k => ⟨0, 0, 0, k.1, k.2⟩
theorem z0U (s : ByteArray) (h : b0D s.data.toList = false) (w : World) : Calls Tryz.prog 73 #[.string s] w fun e w' => ∃ X Y Z : K, e = .returned (.tuple #[rpV X Y Z, .bool false]) ∧ Fr Nob w w' := by
 have := p0L s.data.toList h w
 rwa [c0J] at this
end Go.Proofs.YtmebmhjppmfbbaaGreat


set_option maxHeartbeats 16000000
set_option maxRecDepth 1000000
namespace Go.Proofs.YtmebmhjppmfbbaaGreat
open Go.RowKit Go.Mv Mvp Mvq
theorem z0V (s : ByteArray) (w : World) : Calls Tryz.prog 73 #[.string s] w fun e w' => ∃ X Y Z : K, e = .returned (.tuple #[rpV X Y Z, .bool (b0D s.data.toList)]) ∧ (b0D s.data.toList = true → rpL X Y Z = (rdR s.data.toList).L) ∧ Fr Nob w w' := by
 cases h : b0D s.data.toList
 ·exact (z0U s h w).mono fun e w' ⟨X, Y, Z, k1, k2⟩ => ⟨X, Y, Z, k1, fun h => (by cases h), k2⟩
 ·exact (z0T s h w).mono fun e w' k => ⟨_, _, _, k.1, fun _ => rfl, k.2⟩
theorem D0A (w : World) : Calls Tryz.prog 48 #[] w fun e w' => e = .returned (fv mQ.M) ∧ Fr Nob w w' := z0F mQ .one w
theorem t_ok {lk la : List UInt8} (hk : b0e mQ lk = true) (ha : b0D la = true) : tC lk la = 0 ∧ tS lk la = b0C (a0P (beN lk) (c0r la)) := by unfold tC tS; rw [hk, ha]; exact ⟨rfl, rfl⟩
end Go.Proofs.YtmebmhjppmfbbaaGreat


namespace Mvp
end Mvp
namespace Go.Proofs.YtmebmhjppmfbbaaGreat
open Go.RowKit Go.Mv Mvp
attribute [local irreducible] a0E lw mix cw b0o b0x b0l a0L a0q beN b0F b0c b0z a0J a0N elN mdL b0B b0e
end Go.Proofs.YtmebmhjppmfbbaaGreat


set_option maxHeartbeats 16000000
set_option maxRecDepth 1000000
namespace Go.Mv
open Go.RowKit
theorem Has.ne {w : World} {g g' : Nat} {L L' : List Value} {T T' : TypeId} (h : Has w g L T) (h' : Has w g' L' T') (hT : T ≠ T') : g ≠ g' := by
 rintro rfl
 obtain ⟨_, _, h1, _⟩ := h
 obtain ⟨_, _, h2, _⟩ := h'
 rw [h1] at h2
 simp at h2
 exact hT h2.2.1
theorem Own.ne2 {w : World} {base base' sz sz' n n' : Nat} {T T' : TypeId} {v v' : Value} {L L' : List Value} (h : Own w base T sz v n L) (h' : Own w base' T' sz' v' n' L') (hT : T ≠ T') (k : Nat) (hk : k0c v k) : ¬ k0c v' k := by
 obtain ⟨_, ⟨rfl, _⟩ | ⟨g, o, cap, B, rfl, _, hg, _⟩⟩ := h'
 ·intro t; cases t
 ·intro t
  have e : g = k := by simpa [k0c, Value.ownBlock] using t
  subst e
  exact h.ne hg hT hk
end Go.Mv
namespace Go.Proofs.YtmebmhjppmfbbaaGreat
open Go.RowKit Go.Mv Mvp
attribute [local irreducible] b0t b0K toB a0w a0I b0u c0v a0K c0B b0n a0G c0G
theorem LogAt.at' {w : World} {base g : Nat} {l : List UInt8} (h : LogAt w base g l) : ∃ v, Has w g [v] 228 := ⟨h.choose, h.choose_spec.1⟩
theorem LogAt.own {w w' : World} {base g : Nat} {l : List UInt8} {S : Nat → Prop} (h : LogAt w base g l) (hf : Fr S w w') (hg : ¬ S g) (hs : ∀ v, Own w base 5 1 v 32 (bs l) → ∀ k, k0c v k → ¬ S k) : LogAt w' base g l := by
 obtain ⟨v, h1, h2⟩ := h
 exact ⟨v, h1.keep hf hg, h2.keep hf (hs v h2)⟩
abbrev Tri : Type := Nat × Nat × List UInt8
def C0v (T : List Tri) : List Value := T.map fun t => .pointer (some ⟨t.1, 0, none⟩)
def C0w (T : List Tri) : List Value := T.map fun t => .pointer (some ⟨t.2.1, 0, none⟩)
structure LI (w : World) (base ga gb : Nat) (sa sb : List UInt8) (T : List Tri) (vk : Value) (Lk : List Value) (vw : Value) (Lw : List Value) : Prop where
 la : sa.length = 32
 lb : sb.length = 32
 a : LogAt w base ga sa
 b : RLogAt w gb sb
 each : ∀ t ∈ T, LogAt w base t.1 t.2.2 ∧ RLogAt w t.2.1 t.2.2 ∧ t.2.2.length = 32
 na : (ga :: T.map (·.1)).Nodup
 nb : (gb :: T.map (·.2.1)).Nodup
 k : Own w base 123 1 vk Lk.length Lk
 w : Own w base 132 1 vw Lw.length Lw
 bs : base ≤ ga ∧ base ≤ gb ∧ ∀ t ∈ T, base ≤ t.1 ∧ base ≤ t.2.1
variable {w w' : World} {base ga gb : Nat} {sa sb : List UInt8} {T : List Tri} {vk vw : Value} {Lk Lw : List Value}
theorem LI.still (h : LI w base ga gb sa sb T vk Lk vw Lw) (hf : Fr Nob w w') : LI w' base ga gb sa sb T vk Lk vw Lw :=
 ⟨h.la, h.lb, h.a.still hf, Has.keep h.b hf id, fun t ht => ⟨(h.each t ht).1.still hf, Has.keep (h.each t ht).2.1 hf id, (h.each t ht).2.2⟩, h.na, h.nb, h.k.still hf, h.w.still hf, h.bs⟩
theorem LI.stepB (h : LI w base ga gb sa sb T vk Lk vw Lw) (hf : Fr (One gb) w w') {sb' : List UInt8} (hb : RLogAt w' gb sb') (hl : sb'.length = 32) : LI w' base ga gb sa sb' T vk Lk vw Lw := by
 have hv := h.b
 obtain ⟨v, hav⟩ := h.a.at'
 refine ⟨h.la, hl, h.a.other hf (Has.ne hav hv ap12) hv ap12, hb, fun t ht => ⟨(h.each t ht).1.other hf (Has.ne (h.each t ht).1.at'.choose_spec hv ap12) hv ap12, Has.keep (h.each t ht).2.1 hf ?_, (h.each t ht).2.2⟩, h.na, h.nb,
  h.k.keep hf (fun k hk (e : k = gb) => h.k.ne hv ap12 (e ▸ hk)), h.w.keep hf (fun k hk (e : k = gb) => h.w.ne hv ap12 (e ▸ hk)), h.bs⟩
 have hn := (List.nodup_cons.1 h.nb).1
 intro (e : t.2.1 = gb)
 exact hn (e ▸ List.mem_map.2 ⟨t, ht, rfl⟩)
structure LJ (w : World) (base : Nat) (T : List Tri) (j : Nat) (vk vw : Value) : Prop where
 each : ∀ i t, j ≤ i → T[i]? = some t → LogAt w base t.1 t.2.2 ∧ RLogAt w t.2.1 t.2.2 ∧ t.2.2.length = 32
 na : (T.map (·.1)).Nodup
 nb : (T.map (·.2.1)).Nodup
 k : Own w base 123 1 vk T.length (C0v T)
 w : Own w base 132 1 vw T.length (C0w T)
 bs : ∀ t ∈ T, base ≤ t.1 ∧ base ≤ t.2.1
theorem LI.last (h : LI w base ga gb sa sa T vk (C0v (T ++ [(ga, gb, sa)])) vw (C0w (T ++ [(ga, gb, sa)]))) : LJ w base (T ++ [(ga, gb, sa)]) 0 vk vw := by
 have h1 := List.nodup_cons.1 h.na
 have h2 := List.nodup_cons.1 h.nb
 have hlk : (C0v (T ++ [(ga, gb, sa)])).length = (T ++ [(ga, gb, sa)]).length := by simp [C0v]
 have hlw : (C0w (T ++ [(ga, gb, sa)])).length = (T ++ [(ga, gb, sa)]).length := by simp [C0w]
 refine ⟨?_, ?_, ?_, hlk ▸ h.k, hlw ▸ h.w, ?_⟩
 ·intro i t _ ht
  rcases List.mem_append.1 (List.mem_of_getElem? ht) with ht | ht
  ·exact h.each t ht
  ·simp only [List.mem_singleton] at ht
   subst ht
   exact ⟨h.a, h.b, h.la⟩
 ·rw [List.map_append, List.nodup_append]
  refine ⟨h1.2, by simp, ?_⟩
  intro x hx y hy e
  simp only [List.map_cons, List.map_nil, List.mem_singleton] at hy
  subst hy; subst e
  exact h1.1 hx
 ·rw [List.map_append, List.nodup_append]
  refine ⟨h2.2, by simp, ?_⟩
  intro x hx y hy e
  simp only [List.map_cons, List.map_nil, List.mem_singleton] at hy
  subst hy; subst e
  exact h2.1 hx
 ·intro t ht
  rcases List.mem_append.1 ht with ht | ht
  ·exact h.bs.2.2 t ht
  ·simp only [List.mem_singleton] at ht
   subst ht
   exact ⟨h.bs.1, h.bs.2.1⟩
theorem p0M {α : Type} {l : List α} (h : l.Nodup) {i j : Nat} {x y : α} (hi : l[i]? = some x) (hj : l[j]? = some y) (hne : i ≠ j) : x ≠ y := by
 intro e
 subst e
 have hi' := (List.getElem?_eq_some_iff.1 hi)
 have hj' := (List.getElem?_eq_some_iff.1 hj)
 obtain ⟨a, ha⟩ := hi'
 obtain ⟨b, hb⟩ := hj'
 rcases Nat.lt_or_gt_of_ne hne with k | k
 ·exact (List.pairwise_iff_getElem.1 h) i j a b k (ha.trans hb.symm)
 ·exact (List.pairwise_iff_getElem.1 h) j i b a k (hb.trans ha.symm)
theorem LJ.step {j : Nat} (h : LJ w base T j vk vw) {t : Tri} (ht : T[j]? = some t) {w1 w2 : World} (h1 : Fr (One t.1) w w1) (h2 : Fr (One t.2.1) w1 w2) : LJ w2 base T (j + 1) vk vw := by
 obtain ⟨ha, hb, -⟩ := h.each j t (Nat.le_refl _) ht
 obtain ⟨v, hv⟩ := ha.at'
 have hb1 : RLogAt w1 t.2.1 t.2.2 := Has.keep hb h1 (Has.ne hb hv ap12)
 have k1 := h.k.keep h1 (fun k hk (e : k = t.1) => h.k.ne hv ap12 (e ▸ hk))
 have l1 := h.w.keep h1 (fun k hk (e : k = t.1) => h.w.ne hv ap12 (e ▸ hk))
 refine ⟨?_, h.na, h.nb, k1.keep h2 (fun k hk (e : k = t.2.1) => k1.ne hb1 ap12 (e ▸ hk)), l1.keep h2 (fun k hk (e : k = t.2.1) => l1.ne hb1 ap12 (e ▸ hk)), h.bs⟩
 intro i u hi hu
 obtain ⟨c, d, e⟩ := h.each i u ap13 hu
 have n1 : u.1 ≠ t.1 := p0M h.na (i := i) (j := j) (by simp [List.getElem?_map, hu]) (by simp [List.getElem?_map, ht]) ap13
 have n2 : u.2.1 ≠ t.2.1 := p0M h.nb (i := i) (j := j) (by simp [List.getElem?_map, hu]) (by simp [List.getElem?_map, ht]) ap13
 have c1 := c.other h1 n1 hv ap12
 have d1 : RLogAt w1 u.2.1 u.2.2 := Has.keep d h1 (Has.ne d hv ap12)
 exact ⟨c1.other h2 (Has.ne c1.at'.choose_spec hb1 ap12) hb1 ap12, Has.keep d1 h2 n2, e⟩
end Go.Proofs.YtmebmhjppmfbbaaGreat


set_option maxHeartbeats 16000000
set_option maxRecDepth 1000000
namespace Go.Proofs.YtmebmhjppmfbbaaGreat
open Go.RowKit Go.Mv Mvp Mvt
attribute [local irreducible] b0t b0K toB a0w a0I b0u c0v a0K c0B b0n a0G c0G
def POwn (w : World) (base : Nat) : List Value → List (List UInt8) → Prop
 | [], [] => True
 | v :: vs, l :: ls => Own w base 5 1 v l.length (bs l) ∧ POwn w base vs ls
 | _, _ => False
theorem POwn.len {w : World} {base : Nat} : ∀ {vs : List Value} {ls : List (List UInt8)}, POwn w base vs ls → vs.length = ls.length
 | [], [], _ => rfl
 | _ :: _, _ :: _, h => by simp only [List.length_cons]; rw [POwn.len h.2]
 | [], _ :: _, h => h.elim
 | _ :: _, [], h => h.elim
theorem POwn.keep {w w' : World} {base : Nat} {S : Nat → Prop} (hf : Fr S w w') : ∀ {vs : List Value} {ls : List (List UInt8)}, POwn w base vs ls → (∀ v n l, Own w base 5 1 v n (bs l) → ∀ k, k0c v k → ¬ S k) → POwn w' base vs ls
 | [], [], _, _ => trivial
 | _ :: _, _ :: _, h, hs => ⟨h.1.keep hf (hs _ _ _ h.1), POwn.keep hf h.2 hs⟩
 | [], _ :: _, h, _ => h.elim
 | _ :: _, [], h, _ => h.elim
theorem POwn.still {w w' : World} {base : Nat} {vs : List Value} {ls : List (List UInt8)} (h : POwn w base vs ls) (hf : Fr Nob w w') : POwn w' base vs ls := POwn.keep hf h (fun _ _ _ _ _ _ t => t)
theorem POwn.app {w w' : World} {base base' sz n : Nat} {vs : List Value} {ls : List (List UInt8)} (h : POwn w base vs ls) {q : Value} {T : TypeId} {L : List Value} (hq : Own w base' T sz q n L) (hT : 5 ≠ T) (hf : Fr (k0c q) w w') : POwn w' base vs ls :=
 POwn.keep hf h (fun _ _ _ ho k hk hk' => ho.ne2 hq hT k hk hk')
theorem POwn.snoc {w : World} {base : Nat} {v : Value} {l : List UInt8} (hv : Own w base 5 1 v l.length (bs l)) : ∀ {vs : List Value} {ls : List (List UInt8)}, POwn w base vs ls → POwn w base (vs ++ [v]) (ls ++ [l])
 | [], [], _ => ⟨hv, trivial⟩
 | _ :: _, _ :: _, h => ⟨h.1, POwn.snoc hv h.2⟩
 | [], _ :: _, h => h.elim
 | _ :: _, [], h => h.elim
theorem POwn.parts {w : World} {base : Nat} : ∀ {vs : List Value} {ls : List (List UInt8)}, POwn w base vs ls → (∀ x ∈ ls, x.length ≤ 1000000) → Parts w vs ls
 | [], [], _, _ => trivial
 | _ :: _, _ :: _, h, hx => ⟨b0Y h.1 (hx _ ap14), POwn.parts h.2 (fun x hxm => hx x (by simp [hxm]))⟩
 | [], _ :: _, h, _ => h.elim
 | _ :: _, [], h, _ => h.elim
def LOwn (w : World) (base : Nat) (v : Value) (ls : List (List UInt8)) : Prop := ∃ vs, Own w base 22 1 v ls.length vs ∧ POwn w base vs ls
theorem LOwn.still {w w' : World} {base : Nat} {v : Value} {ls : List (List UInt8)} (h : LOwn w base v ls) (hf : Fr Nob w w') : LOwn w' base v ls := by
 obtain ⟨vs, h1, h2⟩ := h; exact ⟨vs, h1.still hf, h2.still hf⟩
theorem LOwn.parts {w : World} {base : Nat} {v : Value} {ls : List (List UInt8)} (h : LOwn w base v ls) (hx : ∀ x ∈ ls, x.length ≤ 1000000) : ∃ a c, v = .slice a ls.length c ∧ ls.length ≤ c ∧ PartsAt w a ls := by
 obtain ⟨vs, h1, h2⟩ := h
 obtain ⟨a, c, rfl, hc, hr, -⟩ := h1.form
 rw [Nat.mul_one] at hr
 exact ⟨a, c, rfl, hc, vs, hr, (h2.parts hx).get⟩
end Go.Proofs.YtmebmhjppmfbbaaGreat


set_option maxHeartbeats 16000000
set_option maxRecDepth 1000000
namespace Go.Proofs.YtmebmhjppmfbbaaGreat
open Go.RowKit Go.Mv Mvp Mvt
attribute [local irreducible] b0t b0K toB a0w a0I b0u c0v a0K c0B b0n a0G c0G
def Sep (vs : List Value) : Prop := vs.Pairwise fun a b => ∀ k, k0c a k → ¬ k0c b k
theorem Sep.nil : Sep [] := List.Pairwise.nil
theorem POwn.get {w : World} {base : Nat} : ∀ {vs : List Value} {ls : List (List UInt8)}, POwn w base vs ls → ∀ (i : Nat) (v : Value), vs[i]? = some v → ∃ l, ls[i]? = some l ∧ Own w base 5 1 v l.length (bs l)
 | [], [], _, i, v, hv => by simp at hv
 | a :: vs, l :: ls, h, 0, v, hv => by simp at hv; subst hv; exact ⟨l, rfl, h.1⟩
 | a :: vs, l :: ls, h, i + 1, v, hv => by simp at hv; obtain ⟨l', h1, h2⟩ := POwn.get h.2 i v hv; exact ⟨l', by simpa using h1, h2⟩
 | [], _ :: _, h, _, _, _ => h.elim
 | _ :: _, [], h, _, _, _ => h.elim
theorem POwn.mem {w : World} {base : Nat} {vs : List Value} {ls : List (List UInt8)} (h : POwn w base vs ls) {v : Value} (hv : v ∈ vs) : ∃ l, l ∈ ls ∧ Own w base 5 1 v l.length (bs l) := by
 obtain ⟨i, hi⟩ := List.getElem?_of_mem hv
 obtain ⟨l, h1, h2⟩ := h.get i v hi
 exact ⟨l, List.mem_of_getElem? h1, h2⟩
theorem Sep.snoc {w w' : World} {base : Nat} {vs : List Value} {ls : List (List UInt8)} (h : Sep vs) (hp : POwn w base vs ls) {v : Value} {n : Nat} {L : List Value} {T : TypeId} (hv : Own w' w.heap.size T 1 v n L) : Sep (vs ++ [v]) := by
 unfold Sep at *
 rw [List.pairwise_append]
 refine ⟨h, by simp, fun a ha b hb k hk hk' => ?_⟩
 simp only [List.mem_singleton] at hb
 subst hb
 obtain ⟨l, _, ho⟩ := hp.mem ha
 have h1 := (ho.lt hk).2
 have h2 := (hv.lt hk').1
 omega
theorem POwn.mono {w : World} {base base' : Nat} (hb : base' ≤ base) : ∀ {vs : List Value} {ls : List (List UInt8)}, POwn w base vs ls → POwn w base' vs ls
 | [], [], _ => trivial
 | _ :: _, _ :: _, h => ⟨h.1.mono hb, POwn.mono hb h.2⟩
 | [], _ :: _, h => h.elim
 | _ :: _, [], h => h.elim
def SOwn (w : World) (base : Nat) (v : Value) (ls : List (List UInt8)) : Prop := ∃ vs, Own w base 22 1 v ls.length vs ∧ POwn w base vs ls ∧ Sep vs
theorem SOwn.nil (w : World) (base : Nat) : SOwn w base (.slice none 0 0) [] := ⟨[], Own.nil _ _ _ _, trivial, Sep.nil⟩
theorem SOwn.still {w w' : World} {base : Nat} {v : Value} {ls : List (List UInt8)} (h : SOwn w base v ls) (hf : Fr Nob w w') : SOwn w' base v ls := by
 obtain ⟨vs, h1, h2, h3⟩ := h; exact ⟨vs, h1.still hf, h2.still hf, h3⟩
end Go.Proofs.YtmebmhjppmfbbaaGreat


set_option maxHeartbeats 16000000
set_option maxRecDepth 1000000
namespace Mvp
def lenV : Go.Value → Nat
 | .slice _ n _ => n
 | _ => 0
end Mvp
namespace Go.Proofs.YtmebmhjppmfbbaaGreat
open Go.RowKit Go.Mv Mvp
theorem SOwn.mono {w : World} {base base' : Nat} {v : Value} {ls : List (List UInt8)} (h : SOwn w base v ls) (hb : base' ≤ base) : SOwn w base' v ls := by
 obtain ⟨vs, h1, h2, h3⟩ := h; exact ⟨vs, h1.mono hb, h2.mono hb, h3⟩
theorem SOwn.snocF {w w1 w2 w3 : World} {base : Nat} {vs : List Value} {ls : List (List UInt8)} {o v o' : Value} {l : List UInt8}
  (hown : Own w base 22 1 o ls.length vs) (hpo : POwn w base vs ls) (hsep : Sep vs) (hb : base ≤ w.heap.size)
  (hv : Own w1 w.heap.size 5 1 v l.length (bs l)) (hf1 : Fr Nob w w1) (hf2 : Fr Nob w1 w2)
  (ho' : Own w3 base 22 1 o' (ls.length + 1) (vs ++ [v])) (hf3 : Fr (k0c o) w2 w3) : SOwn w3 base o' (ls ++ [l]) := by
 have h12 := hf1.then hf2
 have hv2 := (hv.still hf2).mono hb
 have ho2 := hown.still h12
 refine ⟨vs ++ [v], by simpa using ho', POwn.snoc (hv2.keep hf3 (fun k hk hk' => hv2.ne2 ho2 ap12 k hk hk')) ((hpo.still h12).app ho2 ap12 hf3), hsep.snoc hpo hv⟩
attribute [local irreducible] a0E lw mix cw b0o b0x b0l a0L a0q beN b0F b0c b0z a0J a0N elN mdL b0B b0e
end Go.Proofs.YtmebmhjppmfbbaaGreat


set_option maxHeartbeats 16000000
set_option maxRecDepth 1000000
namespace Mvp
end Mvp
namespace Go.Proofs.YtmebmhjppmfbbaaGreat
open Go.RowKit Go.Mv Mvp
theorem u0c {w : World} {b o n : Nat} {vs : List Value} (h : Rd w (some ⟨b, o, none⟩) n vs) (i : Nat) (v : Value) (hv : vs[i]? = some v) : w.cell? ⟨b, o + i, none⟩ = some v := by
 have h1 := y0T h 0 vs ap14
 have h2 := h1 i v hv
 simpa using h2
attribute [local irreducible] a0E lw mix cw b0o b0x b0l a0L a0q beN b0F b0c b0z a0J a0N elN mdL b0e b0B
end Go.Proofs.YtmebmhjppmfbbaaGreat


set_option maxHeartbeats 16000000
set_option maxRecDepth 1000000
namespace Go.Proofs.YtmebmhjppmfbbaaGreat
open Go.RowKit Go.Mv Mvp Mvq
noncomputable def smL (ln lp : List (List UInt8)) (k : Nat) : List (Nat × Pt) := (List.range k).map fun i => (beN (ln.getD i []), c0r (lp.getD i []))
def o0t (ln lp : List (List UInt8)) : Nat := if ln.length = lp.length then (if ln.length ≤ 512 then (if b0B mQ ln then (if d0q lp then 0 else 4) else 3) else 1) else 2
noncomputable def j0W (ln lp : List (List UInt8)) : List UInt8 := if ln.length = lp.length then (if ln.length ≤ 512 then (if b0B mQ ln then (if d0q lp then b0C (f0u (smL ln lp lp.length)) else []) else []) else []) else []
theorem w0O {ls : List (List UInt8)} (h : d0q ls = true) (i : Nat) (hi : i < ls.length) : b0D (ls.getD i []) = true := by
 unfold d0q at h
 rw [List.all_eq_true] at h
 refine h _ ?_
 rw [List.getD_eq_getElem?_getD, List.getElem?_eq_getElem hi]
 exact List.getElem_mem hi
theorem r0i {ls : List (List UInt8)} (h : b0B mQ ls = true) (i : Nat) (hi : i < ls.length) : b0e mQ (ls.getD i []) = true := by
 unfold b0B at h
 rw [List.all_eq_true] at h
 refine h _ ?_
 rw [List.getD_eq_getElem?_getD, List.getElem?_eq_getElem hi]
 exact List.getElem_mem hi
theorem B0X {ln lp : List (List UInt8)} (hl : ln.length = lp.length) (hn : b0B mQ ln = true) (hp : d0q lp = true) : (i0N (n0e (aK ln ln.length) lp)).pt = f0u (smL ln lp lp.length) := by
 have e : n0c (n0e (aK ln ln.length) lp) = smL ln lp lp.length := by
  unfold n0c n0e smL
  rw [List.map_map]
  refine List.map_congr_left fun i hi => ?_
  have hi := List.mem_range.1 hi
  show (aK ln ln.length i, (rdT (lp.getD i [])).pt) = _
  rw [x0M (w0O hp i hi)]
  unfold aK
  rw [if_pos ap13]
 rw [t0A _ ?_, e]
 intro t ht
 unfold n0e at ht
 obtain ⟨i, hi, rfl⟩ := List.mem_map.1 ht
 have hi := List.mem_range.1 hi
 show aK ln ln.length i < _
 unfold aK
 rw [if_pos ap13]
 exact Nat.lt_trans (g0G (r0i hn i ap13)) q16
theorem z0W (al : Option Addr) (cl : Nat) (vs : List Value) (ln : List (List UInt8)) (bl : Option Addr) (dl : Nat) (us : List Value) (lp : List (List UInt8)) (w : World) (hv : Rd w al ln.length vs) (hp : BParts w vs ln) (hu : Rd w bl lp.length us) (hq : BParts w us lp) :
  Calls Tryz.prog 128 #[.slice al ln.length cl, .slice bl lp.length dl] w fun e w' => ∃ v, e = .returned (.tuple #[v, .int .i64 (o0t ln lp : Nat)]) ∧ OwnB1 w w' v (j0W ln lp) ∧ Fr Nob w w' := by
 by_cases h1 : ln.length = lp.length
 ·rw [← h1] at hu ⊢
  by_cases h2 : ln.length ≤ 512
  ·cases hn : b0B mQ ln
   ·refine (w0D al _ cl vs ln bl dl us lp w hv hp hu hq h2 hn).mono fun e w' k => ⟨.slice none 0 0, ?_, ?_, k.2⟩
    ·rw [k.1]; unfold o0t; rw [if_pos h1, if_pos h2, hn]; rfl
    ·unfold j0W; rw [if_pos h1, if_pos h2, hn]; exact OwnB1.nil _ _
   ·cases hr : d0q lp
    ·refine (w0C al _ cl vs ln bl dl us lp w hv hp hu hq h2 hn hr).mono fun e w' k => ⟨.slice none 0 0, ?_, ?_, k.2⟩
     ·rw [k.1]; unfold o0t; rw [if_pos h1, if_pos h2, hn, hr]; rfl
     ·unfold j0W; rw [if_pos h1, if_pos h2, hn, hr]; exact OwnB1.nil _ _
    ·refine (B0O al _ cl vs ln bl dl us lp w hv hp hu hq h2 hn hr).mono fun e w' k => ?_
     obtain ⟨v, k1, k2, k3⟩ := k
     rw [B0X h1 hn hr] at k2
     refine ⟨v, ?_, ?_, k3⟩
     ·rw [k1]; unfold o0t; rw [if_pos h1, if_pos h2, hn, hr]; rfl
     ·unfold j0W; rw [if_pos h1, if_pos h2, hn, hr]; exact OwnB1.of k2 (c0j _)
  ·refine (w0F al _ cl bl dl w ap13).mono fun e w' k => ⟨.slice none 0 0, ?_, ?_, k.2⟩
   ·rw [k.1]; unfold o0t; rw [if_pos h1, if_neg h2]; rfl
   ·unfold j0W; rw [if_pos h1, if_neg h2]; exact OwnB1.nil _ _
 ·refine (w0E al _ cl bl _ dl w h1).mono fun e w' k => ⟨.slice none 0 0, ?_, ?_, k.2⟩
  ·rw [k.1]; unfold o0t; rw [if_neg h1]; rfl
  ·unfold j0W; rw [if_neg h1]; exact OwnB1.nil _ _
attribute [local irreducible] a0E lw mix cw b0o b0x b0l a0L a0q beN b0F b0c b0z a0J a0N elN mdL b0e rtV b0Q kN kc c0E b0C f0E noR c0k f0P RT.L gXn gYn rpL b0D c0r rdR b0B d0q
end Go.Proofs.YtmebmhjppmfbbaaGreat


set_option maxHeartbeats 16000000
set_option maxRecDepth 1000000
namespace Go.Proofs.YtmebmhjppmfbbaaGreat
open Go.RowKit Go.Mv Mvp Mvq
attribute [local irreducible] a0E lw mix cw b0o b0x b0l a0L a0q beN b0F b0c b0z a0J a0N elN mdL b0e rtV b0Q b0C b0D c0r b0B d0q o0t j0W a0P
theorem p0N (m : Md) (hk : KindOf 1 m) (x : Nat) (w : World) :
  Calls Tryz.prog 60 #[i4 (elN m x)] w fun e w' => e = .returned (i4 (elN m (m.M - x % m.M))) ∧ Fr Nob w w' := by
 have HK := Lib.hid hk
 have HOK := Lib.hid hk.ok
 clear hk
 have st0 := St.start Nob w
 go_enter Tryz.func60, Tryz.ntmps60
 go_wp2_with (with_reducible refine wSk 1 ?_)
 refine a0l st0 rfl rfl rfl (cw 4 (elN m x)) rfl ?_
 intro g1 w1 st1
 clear st0
 go_wp2_with (with_reducible refine wSk 2 ?_)
 refine a0a st1 rfl rfl (z := zAd) ap11 (cw 4 0) ap9 ?_
 intro g2 w2 st2
 clear st1
 go_wp2_with fail
 refine wp_region_noPanic ?_
 refine a0o (fun wx => St Nob w wx [(g1, cw 4 (elN m x), 61), (g2, cw 4 0, 61)]) 5 (.w 1 (.t 2 (.r 0 (.r 3 (.w 4 (.m 5 .nil)))))) ap11 ap11 st2.drew (fun _ _ _ _ _ h => h) ?_
 have hd2 := st2.drew
 clear st2
 refine a0k rfl rfl apW ?_
 try simp only [clL]
 refine a0s rfl rfl rfl rfl (cw 4 (elN m x)) (fun wx hS => St.rangeL hS 0 rfl 0 _ dZl) Tryz.underlying59 rfl ap4 ?_
 try simp only [clL]
 refine a0y rfl rfl ?_
 go_simp
 refine (d0f m HK.out _).mono ?_
 rintro e' w3 ⟨gp, rfl, hle, hm, hf3⟩
 have st3 : St Nob w w3 [(g1, cw 4 (elN m x), 61), (g2, cw 4 0, 61), (gp, mdL m, 185)] := hd2.new hf3 hm hle
 clear hf3 hm hle
 clear hd2
 refine ⟨St.less st3 ap14, ?_⟩
 try simp only [clL]
 refine a0y rfl rfl ?_
 go_simp
 refine (k0L m gp _ HOK.out (st3.at 2 rfl) x).mono ?_
 rintro e' w4 ⟨rfl, hf4⟩
 have st4 := st3.keep hf4
 clear hf4
 clear st3
 refine ⟨St.less st4 ap14, ?_⟩
 try simp only [clL]
 refine a0k rfl rfl (b0f rfl _ (g0U _)) ?_
 try simp only [clL]
 refine a0r rfl rfl ?_
 refine a0h st4 1 rfl rfl rfl rfl ap5 ap4 (a0g _ _) ?_
 intro w5 st5
 clear st4
 try simp only [Act.put]
 refine a0j ?_
 refine NoPanic.normal ?_
 have hr := st5.at 1 rfl
 have hfr := st5.fr
 clear st5
 go_wp2_with fail
 exact bodyPost_ret (a0t rfl rfl hr Tryz.underlying61 rfl ap4) rfl ⟨rfl, hfr⟩
theorem p0O (x : Nat) (w : World) : Calls Tryz.prog 46 #[i4 (elN mQ x)] w fun e w' => ∃ y : Option Addr × Nat, e = .returned (.slice y.1 32 y.2) ∧ BPart w' (.slice y.1 32 y.2) (b0c (x % mQ.M)) ∧ Fr Nob w w' := by
 refine (j0I mQ .one x w).mono ?_
 rintro e w' ⟨v, rfl, ho, hf⟩
 obtain ⟨a, c, rfl, hc, hr, -⟩ := ho.form
 rw [Nat.mul_one] at hr
 exact ⟨(a, c), rfl, ⟨a, 32, c, rfl, hc, hr⟩, hf⟩
end Go.Proofs.YtmebmhjppmfbbaaGreat


set_option maxHeartbeats 16000000
set_option maxRecDepth 1000000
namespace Go.Proofs.YtmebmhjppmfbbaaGreat
open Go.RowKit Go.Mv Mvp Mvq
def OwnU (w : World) (v : Value) (l : List UInt8) : Prop := Own w 0 5 1 v l.length (bs l)
theorem OwnU.part {w : World} {v : Value} {l : List UInt8} (h : OwnU w v l) : BPart w v l := Own.part h
theorem OwnU.still {w w' : World} {v : Value} {l : List UInt8} (h : OwnU w v l) (hf : Fr Nob w w') : OwnU w' v l := Own.still h hf
theorem OwnU.nil (w : World) : OwnU w (.slice none 0 0) [] := Own.nil _ _ _ _
attribute [local irreducible] a0E lw mix cw b0o b0x b0l a0L a0q beN b0F b0c b0z a0J a0N elN mdL b0e rtV b0Q b0C b0D c0r b0B d0q o0t j0W a0P
end Go.Proofs.YtmebmhjppmfbbaaGreat


set_option maxHeartbeats 16000000
set_option maxRecDepth 1000000
namespace Mvp
theorem z0X : ∀ (n : Nat) (l m : List UInt8), l.length = n → m.length = n → beN l = beN m → l = m := by
 intro n
 induction n with
 | zero => intro l m hl hm _; rw [List.length_eq_zero_iff.1 hl, List.length_eq_zero_iff.1 hm]
 | succ n ih =>
  intro l m hl hm h
  obtain ⟨a, x, rfl⟩ : ∃ a x, l = a ++ [x] := by
   rcases List.eq_nil_or_concat l with h | ⟨a, x, h⟩
   ·subst h; simp at hl
   ·exact ⟨a, x, by simpa using h⟩
  obtain ⟨b, y, rfl⟩ : ∃ b y, m = b ++ [y] := by
   rcases List.eq_nil_or_concat m with h | ⟨a, x, h⟩
   ·subst h; simp at hm
   ·exact ⟨a, x, by simpa using h⟩
  rw [e0z, e0z] at h
  have hx := x.toNat_lt
  have hy := y.toNat_lt
  have e : beN a = beN b := by omega
  have e2 : x.toNat = y.toNat := by omega
  rw [ih a b (by simpa using hl) (by simpa using hm) e, UInt8.toNat_inj.1 e2]
theorem beN_zero {l : List UInt8} (h : beN l = 0) : l = List.replicate l.length 0 := by
 refine z0X l.length _ _ rfl ap14 ?_
 rw [h]
 generalize l.length = n
 induction n with
 | zero => rfl
 | succ n ih => rw [List.replicate_succ', e0z, ← ih]; rfl
end Mvp
namespace Mvq
open Mvp
end Mvq


set_option maxHeartbeats 16000000
set_option maxRecDepth 1000000
namespace Go.Proofs.YtmebmhjppmfbbaaGreat
open Go.RowKit Go.Mv Mvp Mvq
attribute [local irreducible] a0E lw mix cw b0o b0x b0l a0L a0q beN b0F b0c b0z a0J a0N elN mdL b0e rtV b0Q kN kc c0E b0C f0E noR c0k f0P RT.L
theorem _root_.ap1 {p : Prop} (h : p := by first | (rw [a0e]; kernel_rfl) | (rw [RT.len]; kernel_rfl) | (rw [l0j]; kernel_rfl) | (simp only [List.length_append, a0e]; kernel_rfl) | (simp only [List.length_append, a0e, RT.len, l0j]; kernel_rfl)) : p := h
theorem _root_.ap3 {p : Prop} (h : p := by first | (simp only [a0e]; done) | (simp only [List.length_append, a0e, RT.len, l0j]; done)) : p := h
theorem w0P (n : Nat) (w : World) : Calls Tryz.prog 50 #[i4 n] w fun e w' => e = .returned (.agg (c0k n o0s).L.toArray) ∧ Fr Nob w w' := by
 have st0 := St.start Nob w
 go_enter Tryz.func50, Tryz.ntmps50
 go_wp2_with (with_reducible refine wSk 1 ?_)
 refine a0l st0 rfl rfl rfl (cw 4 n) rfl ?_
 intro g1 w1 st1
 clear st0
 go_wp2_with (with_reducible refine wSk 2 ?_)
 refine a0a st1 rfl rfl (z := zAc) ap11 (cw 12 0) ap9 ?_
 intro g2 w2 st2
 clear st1
 go_wp2_with fail
 refine wp_region_noPanic ?_
 refine a0f st2 3 [.t 0, .c 1, .c 2] (.m 3 .nil) ap11 ap11 (fun _ _ _ _ _ h => h) ?_
 clear st2
 refine a0d rfl rfl rfl (fun _ => rfl) (cw 4 n) (fun wx hS => St.rangeL hS 0 rfl 0 _ dZl) Tryz.underlying68 rfl ap1 ?_
 try simp only [clL]
 refine a0c rfl rfl rfl Tryz.call120 (fun w hS hR => D0z _) (fun _ => rfl) ?_
 try simp only [clL]
 refine a0c rfl rfl rfl Tryz.call65 (fun w hS hR => p0G n o0s _) (fun _ => rfl) ?_
 try simp only [clL]
 refine a0v fun xq w3 st3 hR => ?_
 try dsimp only
 clear hR xq
 refine a0r rfl rfl ?_
 refine a0h st3 1 rfl rfl rfl rfl ap3 (by first | (rw [a0e]; kernel_rfl) | (simp only [RT.len]; kernel_rfl)) (RT.one _) ?_
 intro w4 st4
 repeat (first | simp only [List.cons_append] at st4 | simp only [List.nil_append] at st4 | simp only [List.set_cons_succ] at st4 | simp only [List.set_cons_zero] at st4)
 clear st3
 try simp only [Act.put]
 refine a0j ?_
 refine NoPanic.normal ?_
 have hr := st4.at 1 rfl
 have hfr := st4.fr
 clear st4
 go_wp2_with fail
 exact bodyPost_ret (a0t rfl rfl hr Tryz.underlying76 rfl (by first | (rw [a0e]; kernel_rfl) | (simp only [RT.len]; kernel_rfl))) rfl ⟨rfl, hfr⟩
theorem w0Q (x1 y1 z1 x2 y2 z2 : K) (hb1 : decide (z1 = 0) = true) (hb2 : decide (z2 = 0) = true) (w : World) : Calls Tryz.prog 63 #[rpV x1 y1 z1, rpV x2 y2 z2] w fun e w' => e = .returned (.bool true) ∧ Fr Nob w w' := by
 have HB1 := Lib.hid hb1
 have HB2 := Lib.hid hb2
 clear hb1 hb2
 unfold rpV rpL
 have st0 := St.start Nob w
 go_enter Tryz.func63, Tryz.ntmps63
 go_wp2_with (with_reducible refine wSk 2 ?_)
 refine a0l st0 rfl rfl rfl (cw 4 (kN x1) ++ (cw 4 (kN y1) ++ cw 4 (kN z1))) rfl ?_
 intro g2 w1 st1
 clear st0
 go_wp2_with (with_reducible refine wSk 3 ?_)
 refine a0l st1 rfl rfl rfl (cw 4 (kN x2) ++ (cw 4 (kN y2) ++ cw 4 (kN z2))) rfl ?_
 intro g3 w2 st2
 clear st1
 go_wp2_with (with_reducible refine wSk 7 ?_)
 refine a0m st2 0 rfl rfl rfl Tryz.underlying76 rfl rfl ap4 ?_
 go_wp2_with fail
 refine (b0N x1 y1 z1 true HB1.out _).mono ?_
 rintro e' w3 ⟨rfl, hf3⟩
 have st3 := st2.keep hf3
 clear st2 hf3
 go_wp2_with (with_reducible refine wSk 9 ?_)
 refine a0m st3 1 rfl rfl rfl Tryz.underlying76 rfl rfl ap4 ?_
 go_wp2_with fail
 refine (b0N x2 y2 z2 true HB2.out _).mono ?_
 rintro e' w4 ⟨rfl, hf4⟩
 have st4 := st3.keep hf4
 clear st3 hf4
 have hfr := st4.fr
 clear st4
 go_wp2_with fail
 go_ret
 exact ⟨rfl, hfr⟩
theorem w0R (x1 y1 z1 x2 y2 z2 : K) (hb1 : decide (z1 = 0) = true) (hb2 : decide (z2 = 0) = false) (w : World) : Calls Tryz.prog 63 #[rpV x1 y1 z1, rpV x2 y2 z2] w fun e w' => e = .returned (.bool false) ∧ Fr Nob w w' := by
 have HB1 := Lib.hid hb1
 have HB2 := Lib.hid hb2
 clear hb1 hb2
 unfold rpV rpL
 have st0 := St.start Nob w
 go_enter Tryz.func63, Tryz.ntmps63
 go_wp2_with (with_reducible refine wSk 2 ?_)
 refine a0l st0 rfl rfl rfl (cw 4 (kN x1) ++ (cw 4 (kN y1) ++ cw 4 (kN z1))) rfl ?_
 intro g2 w1 st1
 clear st0
 go_wp2_with (with_reducible refine wSk 3 ?_)
 refine a0l st1 rfl rfl rfl (cw 4 (kN x2) ++ (cw 4 (kN y2) ++ cw 4 (kN z2))) rfl ?_
 intro g3 w2 st2
 clear st1
 go_wp2_with (with_reducible refine wSk 7 ?_)
 refine a0m st2 0 rfl rfl rfl Tryz.underlying76 rfl rfl ap4 ?_
 go_wp2_with fail
 refine (b0N x1 y1 z1 true HB1.out _).mono ?_
 rintro e' w3 ⟨rfl, hf3⟩
 have st3 := st2.keep hf3
 clear st2 hf3
 go_wp2_with (with_reducible refine wSk 9 ?_)
 refine a0m st3 1 rfl rfl rfl Tryz.underlying76 rfl rfl ap4 ?_
 go_wp2_with fail
 refine (b0N x2 y2 z2 false HB2.out _).mono ?_
 rintro e' w4 ⟨rfl, hf4⟩
 have st4 := st3.keep hf4
 clear st3 hf4
 have hfr := st4.fr
 clear st4
 go_wp2_with fail
 go_ret
 exact ⟨rfl, hfr⟩
theorem w0S (x1 y1 z1 x2 y2 z2 : K) (hb1 : decide (z1 = 0) = false) (hb2 : decide (z2 = 0) = true) (w : World) : Calls Tryz.prog 63 #[rpV x1 y1 z1, rpV x2 y2 z2] w fun e w' => e = .returned (.bool false) ∧ Fr Nob w w' := by
 have HB1 := Lib.hid hb1
 have HB2 := Lib.hid hb2
 clear hb1 hb2
 unfold rpV rpL
 have st0 := St.start Nob w
 go_enter Tryz.func63, Tryz.ntmps63
 go_wp2_with (with_reducible refine wSk 2 ?_)
 refine a0l st0 rfl rfl rfl (cw 4 (kN x1) ++ (cw 4 (kN y1) ++ cw 4 (kN z1))) rfl ?_
 intro g2 w1 st1
 clear st0
 go_wp2_with (with_reducible refine wSk 3 ?_)
 refine a0l st1 rfl rfl rfl (cw 4 (kN x2) ++ (cw 4 (kN y2) ++ cw 4 (kN z2))) rfl ?_
 intro g3 w2 st2
 clear st1
 go_wp2_with (with_reducible refine wSk 7 ?_)
 refine a0m st2 0 rfl rfl rfl Tryz.underlying76 rfl rfl ap4 ?_
 go_wp2_with fail
 refine (b0N x1 y1 z1 false HB1.out _).mono ?_
 rintro e' w3 ⟨rfl, hf3⟩
 have st3 := st2.keep hf3
 clear st2 hf3
 go_wp2_with (with_reducible refine wSk 9 ?_)
 refine a0m st3 1 rfl rfl rfl Tryz.underlying76 rfl rfl ap4 ?_
 go_wp2_with fail
 refine (b0N x2 y2 z2 true HB2.out _).mono ?_
 rintro e' w4 ⟨rfl, hf4⟩
 have st4 := st3.keep hf4
 clear st3 hf4
 have hfr := st4.fr
 clear st4
 go_wp2_with fail
 go_ret
 exact ⟨rfl, hfr⟩
theorem z0Y (x1 y1 z1 x2 y2 z2 : K) (hb1 : decide (z1 = 0) = false) (hb2 : decide (z2 = 0) = false) (v1 v2 : K) (ev1 : x1 * z2 = v1) (ev2 : x2 * z1 = v2) (hv : decide (v1 = v2) = false) (w : World) : Calls Tryz.prog 63 #[rpV x1 y1 z1, rpV x2 y2 z2] w fun e w' => e = .returned (.bool false) ∧ Fr Nob w w' := by
 have HB1 := Lib.hid hb1
 have HB2 := Lib.hid hb2
 clear hb1 hb2
 have Hv1 := Lib.hid ev1
 have Hv2 := Lib.hid ev2
 clear ev1 ev2
 have HV := Lib.hid hv
 clear hv
 unfold rpV rpL
 have st0 := St.start Nob w
 go_enter Tryz.func63, Tryz.ntmps63
 go_wp2_with (with_reducible refine wSk 2 ?_)
 refine a0l st0 rfl rfl rfl (cw 4 (kN x1) ++ (cw 4 (kN y1) ++ cw 4 (kN z1))) rfl ?_
 intro g2 w1 st1
 clear st0
 go_wp2_with (with_reducible refine wSk 3 ?_)
 refine a0l st1 rfl rfl rfl (cw 4 (kN x2) ++ (cw 4 (kN y2) ++ cw 4 (kN z2))) rfl ?_
 intro g3 w2 st2
 clear st1
 go_wp2_with (with_reducible refine wSk 7 ?_)
 refine a0m st2 0 rfl rfl rfl Tryz.underlying76 rfl rfl ap4 ?_
 go_wp2_with fail
 refine (b0N x1 y1 z1 false HB1.out _).mono ?_
 rintro e' w3 ⟨rfl, hf3⟩
 have st3 := st2.keep hf3
 clear st2 hf3
 go_wp2_with (with_reducible refine wSk 9 ?_)
 refine a0m st3 1 rfl rfl rfl Tryz.underlying76 rfl rfl ap4 ?_
 go_wp2_with fail
 refine (b0N x2 y2 z2 false HB2.out _).mono ?_
 rintro e' w4 ⟨rfl, hf4⟩
 have st4 := st3.keep hf4
 clear st3 hf4
 go_wp2_with fail
 refine wp_region_noPanic ?_
 refine b0d (fun wx => St Nob w wx [(g2, cw 4 (kN x1) ++ (cw 4 (kN y1) ++ cw 4 (kN z1)), 76), (g3, cw 4 (kN x2) ++ (cw 4 (kN y2) ++ cw 4 (kN z2)), 76)]) 28 (.w 1 (.t 2 (.w 3 (.t 4 (.w 7 (.t 8 (.w 9 (.t 10 (.r 0 (.r 5 (.r 6 (.r 11 (.w 12 (.w 13 (.w 15 (.t 16 (.w 17 (.t 18 (.w 21 (.t 22 (.w 23 (.t 24 (.r 14 (.r 19 (.r 20 (.r 25 (.w 26 (.w 27 (.m 28 .nil))))))))))))))))))))))))))))) ap11 ap11 st4.drew (fun _ _ _ _ _ h => h) ?_
 have hd4 := st4.drew
 clear st4
 refine a0n rfl rfl apW ?_
 try simp only [clL]
 refine a0R rfl rfl rfl rfl (cw 4 (kN x1)) (fun wx hS => St.rangeL hS 0 rfl 0 _ (i0Z _ _ _)) Tryz.underlying68 rfl ap1 ?_
 try simp only [clL]
 refine a0n rfl rfl apW ?_
 try simp only [clL]
 refine a0R rfl rfl rfl rfl (cw 4 (kN z2)) (fun wx hS => St.rangeL hS 1 rfl 8 _ (f0c _ _ _)) Tryz.underlying68 rfl ap1 ?_
 try simp only [clL]
 refine a0n rfl rfl apW ?_
 try simp only [clL]
 refine a0R rfl rfl rfl rfl (cw 4 (kN x2)) (fun wx hS => St.rangeL hS 1 rfl 0 _ (i0Z _ _ _)) Tryz.underlying68 rfl ap1 ?_
 try simp only [clL]
 refine a0n rfl rfl apW ?_
 try simp only [clL]
 refine a0R rfl rfl rfl rfl (cw 4 (kN z1)) (fun wx hS => St.rangeL hS 0 rfl 8 _ (f0c _ _ _)) Tryz.underlying68 rfl ap1 ?_
 try simp only [clL]
 refine c0f rfl rfl ?_
 go_simp
 refine (a0H _).mono ?_
 rintro e' w5 ⟨rfl, hf5⟩
 have st5 := hd4.keep hf5
 clear hf5
 clear hd4
 refine ⟨st5, ?_⟩
 try simp only [clL]
 refine c0f rfl rfl ?_
 go_simp
 refine (d0P x1 z2 v1 Hv1.out _).mono ?_
 rintro e' w6 ⟨rfl, hf6⟩
 have st6 := st5.keep hf6
 clear hf6
 clear st5
 refine ⟨st6, ?_⟩
 try simp only [clL]
 refine c0f rfl rfl ?_
 go_simp
 refine (a0H _).mono ?_
 rintro e' w7 ⟨rfl, hf7⟩
 have st7 := st6.keep hf7
 clear hf7
 clear st6
 refine ⟨st7, ?_⟩
 try simp only [clL]
 refine c0f rfl rfl ?_
 go_simp
 refine (d0P x2 z1 v2 Hv2.out _).mono ?_
 rintro e' w8 ⟨rfl, hf8⟩
 have st8 := st7.keep hf8
 clear hf8
 clear st7
 refine ⟨st8, ?_⟩
 try simp only [clL]
 refine a0n rfl rfl (fun _ => e0p v1 v2 rfl rfl rfl HV.out _) ?_
 try simp only [clL]
 refine a0n rfl rfl apW ?_
 try simp only [clL]
 refine a0Y rfl rfl ?_
 try simp only [clL]
 refine c0b rfl rfl ?_
 try simp only [clL]
 refine a0Y rfl rfl ?_
 try simp only [clL]
 refine c0b rfl rfl ?_
 try simp only [clL]
 refine a0Y rfl rfl ?_
 try simp only [clL]
 refine c0b rfl rfl ?_
 try simp only [clL]
 refine a0Y rfl rfl ?_
 try simp only [clL]
 refine c0b rfl rfl ?_
 try simp only [clL]
 refine d0K rfl rfl ⟨st8, ?_⟩
 try simp only [clL]
 refine d0K rfl rfl ⟨st8, ?_⟩
 try simp only [clL]
 refine d0K rfl rfl ⟨st8, ?_⟩
 try simp only [clL]
 refine d0K rfl rfl ⟨st8, ?_⟩
 try simp only [clL]
 refine a0Y rfl rfl ?_
 try simp only [clL]
 refine a0n rfl rfl apW ?_
 try simp only [clL]
 refine e0J rfl rfl ?_
 go_simp
 try simp only [clL]
 refine c0R ?_
 refine NoPanic.normal ?_
 have hfr := st8.fr
 clear st8
 go_wp2_with fail
 go_ret
 exact ⟨rfl, hfr⟩
theorem u0d (x1 y1 z1 x2 y2 z2 : K) (hb1 : decide (z1 = 0) = false) (hb2 : decide (z2 = 0) = false) (v1 v2 u1 u2 : K) (ev1 : x1 * z2 = v1) (ev2 : x2 * z1 = v2) (eu1 : y1 * z2 = u1) (eu2 : y2 * z1 = u2) (hv : decide (v1 = v2) = true) (b : Bool) (hu : decide (u1 = u2) = b) (w : World) : Calls Tryz.prog 63 #[rpV x1 y1 z1, rpV x2 y2 z2] w fun e w' => e = .returned (.bool b) ∧ Fr Nob w w' := by
 have HB1 := Lib.hid hb1
 have HB2 := Lib.hid hb2
 clear hb1 hb2
 have Hv1 := Lib.hid ev1
 have Hv2 := Lib.hid ev2
 have Hu1 := Lib.hid eu1
 have Hu2 := Lib.hid eu2
 clear ev1 ev2 eu1 eu2
 have HV := Lib.hid hv
 have HU := Lib.hid hu
 clear hv hu
 unfold rpV rpL
 have st0 := St.start Nob w
 go_enter Tryz.func63, Tryz.ntmps63
 go_wp2_with (with_reducible refine wSk 2 ?_)
 refine a0l st0 rfl rfl rfl (cw 4 (kN x1) ++ (cw 4 (kN y1) ++ cw 4 (kN z1))) rfl ?_
 intro g2 w1 st1
 clear st0
 go_wp2_with (with_reducible refine wSk 3 ?_)
 refine a0l st1 rfl rfl rfl (cw 4 (kN x2) ++ (cw 4 (kN y2) ++ cw 4 (kN z2))) rfl ?_
 intro g3 w2 st2
 clear st1
 go_wp2_with (with_reducible refine wSk 7 ?_)
 refine a0m st2 0 rfl rfl rfl Tryz.underlying76 rfl rfl ap4 ?_
 go_wp2_with fail
 refine (b0N x1 y1 z1 false HB1.out _).mono ?_
 rintro e' w3 ⟨rfl, hf3⟩
 have st3 := st2.keep hf3
 clear st2 hf3
 go_wp2_with (with_reducible refine wSk 9 ?_)
 refine a0m st3 1 rfl rfl rfl Tryz.underlying76 rfl rfl ap4 ?_
 go_wp2_with fail
 refine (b0N x2 y2 z2 false HB2.out _).mono ?_
 rintro e' w4 ⟨rfl, hf4⟩
 have st4 := st3.keep hf4
 clear st3 hf4
 go_wp2_with fail
 refine wp_region_noPanic ?_
 refine b0d (fun wx => St Nob w wx [(g2, cw 4 (kN x1) ++ (cw 4 (kN y1) ++ cw 4 (kN z1)), 76), (g3, cw 4 (kN x2) ++ (cw 4 (kN y2) ++ cw 4 (kN z2)), 76)]) 28 (.w 1 (.t 2 (.w 3 (.t 4 (.w 7 (.t 8 (.w 9 (.t 10 (.r 0 (.r 5 (.r 6 (.r 11 (.w 12 (.w 13 (.w 15 (.t 16 (.w 17 (.t 18 (.w 21 (.t 22 (.w 23 (.t 24 (.r 14 (.r 19 (.r 20 (.r 25 (.w 26 (.w 27 (.m 28 .nil))))))))))))))))))))))))))))) ap11 ap11 st4.drew (fun _ _ _ _ _ h => h) ?_
 have hd4 := st4.drew
 clear st4
 refine a0n rfl rfl apW ?_
 try simp only [clL]
 refine a0R rfl rfl rfl rfl (cw 4 (kN x1)) (fun wx hS => St.rangeL hS 0 rfl 0 _ (i0Z _ _ _)) Tryz.underlying68 rfl ap1 ?_
 try simp only [clL]
 refine a0n rfl rfl apW ?_
 try simp only [clL]
 refine a0R rfl rfl rfl rfl (cw 4 (kN z2)) (fun wx hS => St.rangeL hS 1 rfl 8 _ (f0c _ _ _)) Tryz.underlying68 rfl ap1 ?_
 try simp only [clL]
 refine a0n rfl rfl apW ?_
 try simp only [clL]
 refine a0R rfl rfl rfl rfl (cw 4 (kN x2)) (fun wx hS => St.rangeL hS 1 rfl 0 _ (i0Z _ _ _)) Tryz.underlying68 rfl ap1 ?_
 try simp only [clL]
 refine a0n rfl rfl apW ?_
 try simp only [clL]
 refine a0R rfl rfl rfl rfl (cw 4 (kN z1)) (fun wx hS => St.rangeL hS 0 rfl 8 _ (f0c _ _ _)) Tryz.underlying68 rfl ap1 ?_
 try simp only [clL]
 refine c0f rfl rfl ?_
 go_simp
 refine (a0H _).mono ?_
 rintro e' w5 ⟨rfl, hf5⟩
 have st5 := hd4.keep hf5
 clear hf5
 clear hd4
 refine ⟨st5, ?_⟩
 try simp only [clL]
 refine c0f rfl rfl ?_
 go_simp
 refine (d0P x1 z2 v1 Hv1.out _).mono ?_
 rintro e' w6 ⟨rfl, hf6⟩
 have st6 := st5.keep hf6
 clear hf6
 clear st5
 refine ⟨st6, ?_⟩
 try simp only [clL]
 refine c0f rfl rfl ?_
 go_simp
 refine (a0H _).mono ?_
 rintro e' w7 ⟨rfl, hf7⟩
 have st7 := st6.keep hf7
 clear hf7
 clear st6
 refine ⟨st7, ?_⟩
 try simp only [clL]
 refine c0f rfl rfl ?_
 go_simp
 refine (d0P x2 z1 v2 Hv2.out _).mono ?_
 rintro e' w8 ⟨rfl, hf8⟩
 have st8 := st7.keep hf8
 clear hf8
 clear st7
 refine ⟨st8, ?_⟩
 try simp only [clL]
 refine a0n rfl rfl (fun _ => e0p v1 v2 rfl rfl rfl HV.out _) ?_
 try simp only [clL]
 refine a0n rfl rfl apW ?_
 try simp only [clL]
 refine a0n rfl rfl apW ?_
 try simp only [clL]
 refine a0R rfl rfl rfl rfl (cw 4 (kN y1)) (fun wx hS => St.rangeL hS 0 rfl 4 _ (l0q _ _ _)) Tryz.underlying68 rfl ap1 ?_
 try simp only [clL]
 refine a0n rfl rfl apW ?_
 try simp only [clL]
 refine a0R rfl rfl rfl rfl (cw 4 (kN z2)) (fun wx hS => St.rangeL hS 1 rfl 8 _ (f0c _ _ _)) Tryz.underlying68 rfl ap1 ?_
 try simp only [clL]
 refine a0n rfl rfl apW ?_
 try simp only [clL]
 refine a0R rfl rfl rfl rfl (cw 4 (kN y2)) (fun wx hS => St.rangeL hS 1 rfl 4 _ (l0q _ _ _)) Tryz.underlying68 rfl ap1 ?_
 try simp only [clL]
 refine a0n rfl rfl apW ?_
 try simp only [clL]
 refine a0R rfl rfl rfl rfl (cw 4 (kN z1)) (fun wx hS => St.rangeL hS 0 rfl 8 _ (f0c _ _ _)) Tryz.underlying68 rfl ap1 ?_
 try simp only [clL]
 refine c0f rfl rfl ?_
 go_simp
 refine (a0H _).mono ?_
 rintro e' w9 ⟨rfl, hf9⟩
 have st9 := st8.keep hf9
 clear hf9
 clear st8
 refine ⟨st9, ?_⟩
 try simp only [clL]
 refine c0f rfl rfl ?_
 go_simp
 refine (d0P y1 z2 u1 Hu1.out _).mono ?_
 rintro e' w10 ⟨rfl, hf10⟩
 have st10 := st9.keep hf10
 clear hf10
 clear st9
 refine ⟨st10, ?_⟩
 try simp only [clL]
 refine c0f rfl rfl ?_
 go_simp
 refine (a0H _).mono ?_
 rintro e' w11 ⟨rfl, hf11⟩
 have st11 := st10.keep hf11
 clear hf11
 clear st10
 refine ⟨st11, ?_⟩
 try simp only [clL]
 refine c0f rfl rfl ?_
 go_simp
 refine (d0P y2 z1 u2 Hu2.out _).mono ?_
 rintro e' w12 ⟨rfl, hf12⟩
 have st12 := st11.keep hf12
 clear hf12
 clear st11
 refine ⟨st12, ?_⟩
 try simp only [clL]
 refine a0n rfl rfl (fun _ => e0p u1 u2 rfl rfl rfl HU.out _) ?_
 try simp only [clL]
 refine a0n rfl rfl apW ?_
 try simp only [clL]
 refine e0J rfl rfl ?_
 go_simp
 try simp only [clL]
 refine c0R ?_
 refine NoPanic.normal ?_
 have hfr := st12.fr
 clear st12
 go_wp2_with fail
 go_ret
 exact ⟨rfl, hfr⟩
theorem u0e {x1 y1 z1 x2 y2 z2 : K} (h1 : z1 ≠ 0) (h2 : z2 ≠ 0) : nm x1 y1 z1 = nm x2 y2 z2 ↔ (x1 * z2 = x2 * z1 ∧ y1 * z2 = y2 * z1) := by
 rw [m0C h1, m0C h2]
 have k1 := a0Z h1
 have k2 := a0Z h2
 generalize c0E z1 = a at *
 generalize c0E z2 = b at *
 constructor
 ·intro h
  injection h with hx hy
  constructor
  ·grind -lia -linarith
  ·grind -lia -linarith
 ·rintro ⟨hx, hy⟩
  have e1 : x1 * a = x2 * b := by grind -lia -linarith
  have e2 : y1 * a = y2 * b := by grind -lia -linarith
  rw [e1, e2]
open Classical in
theorem z0Z (s t : RT) (w : World) : Calls Tryz.prog 63 #[.agg s.L.toArray, .agg t.L.toArray] w fun e w' => e = .returned (.bool (decide (s.pt = t.pt))) ∧ Fr Nob w w' := by
 have hs : s.L = rpL s.x s.y s.z := by unfold RT.L; rfl
 have ht : t.L = rpL t.x t.y t.z := by unfold RT.L; rfl
 have ps : s.pt = nm s.x s.y s.z := rfl
 have pt : t.pt = nm t.x t.y t.z := rfl
 rw [hs, ht, ps, pt]
 generalize s.x = x1
 generalize s.y = y1
 generalize s.z = z1
 generalize t.x = x2
 generalize t.y = y2
 generalize t.z = z2
 clear hs ht ps pt
 by_cases h1 : z1 = 0
 ·by_cases h2 : z2 = 0
  ·rw [s0V h1, s0V h2, decide_eq_true rfl]
   exact w0Q x1 y1 z1 x2 y2 z2 (decide_eq_true h1) (decide_eq_true h2) w
  ·rw [s0V h1, m0C h2, decide_eq_false (by intro h; cases h)]
   exact w0R x1 y1 z1 x2 y2 z2 (decide_eq_true h1) (decide_eq_false h2) w
 ·by_cases h2 : z2 = 0
  ·rw [m0C h1, s0V h2, decide_eq_false (by intro h; cases h)]
   exact w0S x1 y1 z1 x2 y2 z2 (decide_eq_false h1) (decide_eq_true h2) w
  ·have hi := u0e (x1 := x1) (y1 := y1) (x2 := x2) (y2 := y2) h1 h2
   by_cases hx : x1 * z2 = x2 * z1
   ·by_cases hy : y1 * z2 = y2 * z1
    ·rw [decide_eq_true (hi.2 ⟨hx, hy⟩)]
     exact u0d x1 y1 z1 x2 y2 z2 (decide_eq_false h1) (decide_eq_false h2) _ _ _ _ rfl rfl rfl rfl (decide_eq_true hx) true (decide_eq_true hy) w
    ·rw [decide_eq_false (fun h => hy (hi.1 h).2)]
     exact u0d x1 y1 z1 x2 y2 z2 (decide_eq_false h1) (decide_eq_false h2) _ _ _ _ rfl rfl rfl rfl (decide_eq_true hx) false (decide_eq_false hy) w
   ·rw [decide_eq_false (fun h => hx (hi.1 h).1)]
    exact z0Y x1 y1 z1 x2 y2 z2 (decide_eq_false h1) (decide_eq_false h2) _ _ rfl rfl (decide_eq_false hx) w
end Go.Proofs.YtmebmhjppmfbbaaGreat


namespace Mvp
end Mvp
namespace Go.Proofs.YtmebmhjppmfbbaaGreat
open Go.RowKit Go.Mv Mvp
attribute [local irreducible] a0E lw mix cw b0o b0x b0l a0L a0q beN b0F b0c b0z a0J a0N elN mdL b0B b0e
end Go.Proofs.YtmebmhjppmfbbaaGreat


set_option maxHeartbeats 16000000
set_option maxRecDepth 1000000
namespace Go.Proofs.YtmebmhjppmfbbaaGreat
open Go.RowKit Go.Mv Mvp Mvq
theorem w0T : mQ.M = qN := by decide
theorem u0f (s : ByteArray) (w : World) : Calls Tryz.prog 68 #[.string s] w fun e w' => ∃ N : Nat, e = .returned (.tuple #[i4 N, .bool (b0e mQ s.data.toList)]) ∧ (b0e mQ s.data.toList = true → N = beN s.data.toList) ∧ Fr Nob w w' := by
 cases h : b0e mQ s.data.toList
 ·exact (w0v mQ .one s w h).mono fun e w' ⟨N, k1, k2⟩ => ⟨N, k1, fun h => (by cases h), k2⟩
 ·exact (w0u mQ .one s w h).mono fun e w' k => ⟨_, k.1, fun _ => rfl, k.2⟩
attribute [local irreducible] a0E lw mix cw b0o b0x b0l a0L a0q beN b0F b0c b0z a0J a0N elN mdL b0e rtV b0Q kN kc c0E b0C f0E noR c0k f0P RT.L gXn gYn rpL b0D c0r rdR
end Go.Proofs.YtmebmhjppmfbbaaGreat


set_option maxHeartbeats 16000000
set_option maxRecDepth 1000000
namespace Go.Proofs.YtmebmhjppmfbbaaGreat
open Go.RowKit Go.Mv Mvp Mvq
theorem p0P (x : Nat) : beN (b0c (x % mQ.M)) = x % mQ.M := o0Y _ (Nat.lt_trans (Nat.mod_lt x ap12) ap12)
theorem l0m (x : Nat) : b0e mQ (b0c (x % mQ.M)) = true := by
 unfold b0e
 rw [b0P, p0P, decide_eq_true rfl, decide_eq_true (Nat.mod_lt x ap12)]
 rfl
theorem B0Y (p : Pt) : a0P 1 p = p := rfl
attribute [local irreducible] a0E lw mix cw b0o b0x b0l a0L a0q beN b0F b0c b0z a0J a0N elN mdL b0e rtV b0Q kN kc c0E b0C f0E noR c0k f0P RT.L gXn gYn rpL b0D c0r rdR a0P o0t j0W
end Go.Proofs.YtmebmhjppmfbbaaGreat


set_option maxHeartbeats 16000000
set_option maxRecDepth 1000000
namespace Go.Proofs.YtmebmhjppmfbbaaGreat
open Go.RowKit Go.Mv Mvp Mvq
noncomputable def d0N (xs : List Nat) : List Value := xs.flatMap fun x => cw 4 (elN mQ x)
theorem j0X : ∀ (xs : List Nat) (j : Nat) (hj : j < xs.length), ((d0N xs).drop (j * 4)).take 4 = cw 4 (elN mQ (xs[j]'hj))
 | x :: xs, 0, _ => by
  simp only [d0N, List.flatMap_cons, Nat.zero_mul, List.drop_zero, List.getElem_cons_zero]
  exact List.take_left' (a0e _ _)
 | x :: xs, j + 1, hj => by
  have h := j0X xs j (by simpa using hj)
  simp only [List.getElem_cons_succ]
  rw [← h]
  simp only [d0N, List.flatMap_cons]
  rw [show (j + 1) * 4 = (cw 4 (elN mQ x)).length + j * 4 by rw [a0e]; omega, List.drop_append, List.drop_of_length_le (Nat.le_add_right _ _), List.nil_append, Nat.add_sub_cancel_left]
theorem r0j (xs : List Nat) : (d0N xs).length = xs.length * 4 := by
 induction xs with
 | nil => rfl
 | cons x xs ih => simp only [d0N, List.flatMap_cons, List.length_append, a0e] at *; rw [ih, List.length_cons]; omega
noncomputable def zB (xs : List Nat) : List (List UInt8) := xs.map fun x => b0c (x % mQ.M)
theorem A0a (xs : List Nat) (j : Nat) (hj : j < xs.length) : (zB xs).take (j + 1) = (zB xs).take j ++ [b0c (xs[j]'hj % mQ.M)] := by
 rw [List.take_succ_eq_append_getElem (by simpa [zB] using hj)]
 simp [zB]
theorem p0Q (xs : List Nat) : (zB xs).length = xs.length := by simp [zB]
theorem d0A : (Tryz.prog.info? 22).map (fun i => (i.zero, i.size, i.bytes)) = some (some (.slice none 0 0), 1, 24) := by kernel_rfl
attribute [local irreducible] a0E lw mix cw b0o b0x b0l a0L a0q beN b0F b0c b0z a0J a0N elN mdL b0e rtV b0Q b0C b0D c0r b0B d0q o0t j0W a0P b0t b0K toB a0w a0I b0u c0v a0K c0B b0n a0G c0G e0U d0N
theorem D0B (x y : Nat) (w : World) :
  Calls Tryz.prog 110 #[i4 (elN mQ x), i4 (elN mQ y)] w fun e w' => e = .returned (i4 (elN mQ (x + y))) ∧ Fr Nob w w' := by
 have st0 := St.start Nob w
 go_enter Tryz.func110, Tryz.ntmps110
 go_wp2_with (with_reducible refine wSk 2 ?_)
 refine a0l st0 rfl rfl rfl (cw 4 (elN mQ x)) rfl ?_
 intro g2 w1 st1
 clear st0
 go_wp2_with (with_reducible refine wSk 3 ?_)
 refine a0l st1 rfl rfl rfl (cw 4 (elN mQ y)) rfl ?_
 intro g3 w2 st2
 clear st1
 go_wp2_with (with_reducible refine wSk 4 ?_)
 refine a0a st2 rfl rfl (z := zAd) ap11 (cw 4 0) ap9 ?_
 intro g4 w3 st3
 clear st2
 go_wp2_with fail
 refine wp_region_noPanic ?_
 refine a0o (fun wx => St Nob w wx [(g2, cw 4 (elN mQ x), 61), (g3, cw 4 (elN mQ y), 61), (g4, cw 4 0, 61)]) 7 (.w 1 (.t 2 (.w 3 (.t 4 (.r 0 (.r 5 (.w 6 (.m 7 .nil)))))))) ap11 ap11 st3.drew (fun _ _ _ _ _ h => h) ?_
 have hd3 := st3.drew
 clear st3
 refine a0k rfl rfl apW ?_
 try simp only [clL]
 refine a0s rfl rfl rfl rfl (cw 4 (elN mQ x)) (fun wx hS => St.rangeL hS 0 rfl 0 _ dZl) Tryz.underlying59 rfl ap4 ?_
 try simp only [clL]
 refine a0k rfl rfl apW ?_
 try simp only [clL]
 refine a0s rfl rfl rfl rfl (cw 4 (elN mQ y)) (fun wx hS => St.rangeL hS 1 rfl 0 _ dZl) Tryz.underlying59 rfl ap4 ?_
 try simp only [clL]
 refine a0y rfl rfl ?_
 go_simp
 refine (d0f mQ .one _).mono ?_
 rintro e' w4 ⟨gp, rfl, hle, hm, hf4⟩
 have st4 : St Nob w w4 [(g2, cw 4 (elN mQ x), 61), (g3, cw 4 (elN mQ y), 61), (g4, cw 4 0, 61), (gp, mdL mQ, 185)] := hd3.new hf4 hm hle
 clear hf4 hm hle
 clear hd3
 refine ⟨St.less st4 ap14, ?_⟩
 try simp only [clL]
 refine a0y rfl rfl ?_
 go_simp
 refine (g0t mQ gp _ n0D (st4.at 3 rfl) x y).mono ?_
 rintro e' w5 ⟨rfl, hf5⟩
 have st5 := st4.keep hf5
 clear hf5
 clear st4
 refine ⟨St.less st5 ap14, ?_⟩
 try simp only [clL]
 refine a0k rfl rfl (b0f rfl _ (g0U _)) ?_
 try simp only [clL]
 refine a0r rfl rfl ?_
 refine a0h st5 2 rfl rfl rfl rfl ap5 ap4 (a0g _ _) ?_
 intro w6 st6
 clear st5
 try simp only [Act.put]
 refine a0j ?_
 refine NoPanic.normal ?_
 have hr := st6.at 2 rfl
 have hfr := st6.fr
 clear st6
 go_wp2_with fail
 exact bodyPost_ret (a0t rfl rfl hr Tryz.underlying61 rfl ap4) rfl ⟨rfl, hfr⟩
theorem C0Z (z x y : Nat) (w : World) :
  Calls Tryz.prog 44 #[i4 (elN mQ z), i4 (elN mQ x), i4 (elN mQ y)] w fun e w' => e = .returned (i4 (elN mQ (z + x * y))) ∧ Fr Nob w w' := by
 have st0 := St.start Nob w
 go_enter Tryz.func44, Tryz.ntmps44
 go_wp2_with (with_reducible refine wSk 3 ?_)
 refine a0l st0 rfl rfl rfl (cw 4 (elN mQ z)) rfl ?_
 intro g3 w1 st1
 clear st0
 go_wp2_with (with_reducible refine wSk 4 ?_)
 refine a0l st1 rfl rfl rfl (cw 4 (elN mQ x)) rfl ?_
 intro g4 w2 st2
 clear st1
 go_wp2_with (with_reducible refine wSk 5 ?_)
 refine a0l st2 rfl rfl rfl (cw 4 (elN mQ y)) rfl ?_
 intro g5 w3 st3
 clear st2
 go_wp2_with (with_reducible refine wSk 6 ?_)
 refine a0a st3 rfl rfl (z := zAd) ap11 (cw 4 0) ap9 ?_
 intro g6 w4 st4
 clear st3
 go_wp2_with fail
 refine wp_region_noPanic ?_
 refine a0f st4 5 [.t 0, .t 1, .t 2, .c 3, .c 4] (.m 5 .nil) ap11 ap11 (fun _ _ _ _ _ h => h) ?_
 clear st4
 refine a0d rfl rfl rfl (fun _ => rfl) (cw 4 (elN mQ z)) (fun wx hS => St.rangeL hS 0 rfl 0 _ dZl) Tryz.underlying61 rfl ap4 ?_
 try simp only [clL]
 refine a0d rfl rfl rfl (fun _ => rfl) (cw 4 (elN mQ x)) (fun wx hS => St.rangeL hS 1 rfl 0 _ dZl) Tryz.underlying61 rfl ap4 ?_
 try simp only [clL]
 refine a0d rfl rfl rfl (fun _ => rfl) (cw 4 (elN mQ y)) (fun wx hS => St.rangeL hS 2 rfl 0 _ dZl) Tryz.underlying61 rfl ap4 ?_
 try simp only [clL]
 refine a0c rfl rfl rfl Tryz.call88 (fun w hS hR => v0C mQ .one x y _) (fun _ => rfl) ?_
 try simp only [clL]
 refine a0c rfl rfl rfl Tryz.call110 (fun w hS hR => D0B z (x * y) _) (fun _ => rfl) ?_
 try simp only [clL]
 refine a0v fun xq w5 st5 hR => ?_
 try dsimp only
 clear hR xq
 refine a0r rfl rfl ?_
 refine a0h st5 3 rfl rfl rfl rfl ap5 ap4 (a0g _ _) ?_
 intro w6 st6
 repeat (first | simp only [List.cons_append] at st6 | simp only [List.nil_append] at st6 | simp only [List.set_cons_succ] at st6 | simp only [List.set_cons_zero] at st6)
 clear st5
 try simp only [Act.put]
 refine a0j ?_
 refine NoPanic.normal ?_
 have hr := st6.at 3 rfl
 have hfr := st6.fr
 clear st6
 go_wp2_with fail
 exact bodyPost_ret (a0t rfl rfl hr Tryz.underlying61 rfl ap4) rfl ⟨rfl, hfr⟩
theorem w0U (al : Option Addr) (c : Nat) (xs : List Nat) (w : World) (hv : Rd w al (xs.length * 4) (d0N xs)) (hn : xs.length ≤ 100000) :
  Calls Tryz.prog 129 #[.slice al xs.length c] w fun e w' => ∃ v, e = .returned v ∧ SOwn w' w.heap.size v (zB xs) ∧ Fr Nob w w' := by
 have HV := Lib.hid hv
 clear hv
 go_enter Tryz.func129, Tryz.ntmps129
 go_wp2_with fail
 go_loopw [3, 8] (fun q i wr => ∃ j : Nat, j ≤ xs.length ∧ i = .int .i64 (j : Int) ∧ SOwn wr w.heap.size q ((zB xs).take j) ∧ Fr Nob w wr) (fun _ i _ => (xs.length - intOf i).toNat)
 case atStart => exact ⟨0, by omega, rfl, by rw [List.take_zero]; exact SOwn.nil _ _, Fr.refl _ _⟩
 case round =>
  obtain ⟨j, hj, rfl, hS, hfj⟩ := hrel
  by_cases hlt : j < xs.length
  ·have hltI : (j : Int) < (xs.length : Int) := by omega
   have hnI : (xs.length : Int) ≤ 100000 := by omega
   have hV := HV.out.still hfj
   obtain ⟨b, o, rfl, hat⟩ := hV.at ap13
   have hat4 : At wr b (o + j * 4) (cw 4 (elN mQ xs[j])) := by
    have := hat.sub (j * 4) 4
    rwa [j0X xs j hlt] at this
   have HTK := Lib.hid (A0a xs j hlt)
   generalize xs[j] = x at *
   have HAT := Lib.hid hat4
   obtain ⟨vs, hown, hpo, hsep⟩ := hS
   have hll : ((zB xs).take j).length = j := by rw [List.length_take, p0Q]; omega
   have hown0 := hown
   rw [hll] at hown
   have HLL := Lib.hid hll
   have HO0 := Lib.hid hown0
   have HO := Lib.hid hown
   have HPO := Lib.hid hpo
   have HSEP := Lib.hid hsep
   have HFJ := Lib.hid hfj
   have st0 := St.start Nob wr
   clear hV hat hat4 hll hown0 hown hpo hsep hfj
   go_wp2_with (with_reducible refine wSk 11 ?_)
   refine k0t rfl rfl Tryz.underlying61 rfl rfl HAT.out (f0h _) ?_
   clear HAT
   go_wp2_with (with_reducible refine wSk 5 ?_)
   refine a0a st0 rfl rfl B0L (cw 4 0) ap9 ?_
   intro g5 w1 st1
   clear st0
   go_wp2_with (with_reducible refine wSn ?_)
   refine a0b st1 0 rfl rfl rfl rfl rfl (o0f _ _) (f0h _) (a0g _ _) ?_
   intro w2 st2
   clear st1
   go_wp2_with (with_reducible refine wSk 13 ?_)
   refine a0m st2 0 rfl rfl rfl Tryz.underlying61 rfl rfl (f0h _) ?_
   go_wp2_with fail
   refine (j0I mQ .one x _).mono ?_
   rintro e' w3 ⟨v, rfl, hown1, hf3⟩
   have hf23 := st2.fr.then hf3
   have HSZ := Lib.hid (HFJ.out.size)
   have hown1' := hown1.mono st2.fr.size
   obtain ⟨av, cv, rfl, -⟩ := g0e hown1
   have HO1 := Lib.hid hown1'
   have HF3 := Lib.hid hf23
   clear st2 hown1 hown1' hf3 hf23
   go_wp2_with (with_reducible refine wSk 15 ?_)
   refine c0n rfl rfl Tryz.underlying39 d0A [.slice av 32 cv] rfl (by simp; rfl) rfl rfl ?_
   intro w4 hh4 hf4 hz4
   clear hz4
   have hownq := (HO.out.still HF3.out).still hf4
   have hfr4 := (HFJ.out.then HF3.out).then hf4
   have HF4 := Lib.hid hf4
   clear hf4
   generalize w3.heap.size = g1 at *
   have hsz4 := hfr4.size
   have hrd4 := Rd.whole hh4
   clear hh4
   have HRD4 := Lib.hid hrd4
   have HQ4 := Lib.hid hownq
   have HFR4 := Lib.hid hfr4
   have HZ4 := Lib.hid hsz4
   clear hrd4 hownq hfr4 hsz4
   go_wp2_with (with_reducible refine wSk 16 ?_)
   refine d0c rfl rfl Tryz.underlying39 d0A rfl ap12 HQ4.out rfl rfl HRD4.out (fun u hu => by simp only [List.mem_singleton] at hu; subst hu; rfl) ap8 ap13 HZ4.out ?_
   intro v5 w5 hown5 hf5 hb5
   clear hb5
   have hfr5 := HQ4.out.fr HFR4.out (Nat.le_refl _) hf5
   have hfin : SOwn w5 w.heap.size v5 ((zB xs).take (j + 1)) := by
    rw [HTK.out]
    refine SOwn.snocF (w := wr) HO0.out HPO.out HSEP.out HSZ.out (by rw [b0P]; exact HO1.out) HF3.out HF4.out (by rw [HLL.out]; exact hown5) hf5
   have HFIN := Lib.hid hfin
   have HFR5 := Lib.hid hfr5
   clear hown5 hf5 hfr5 hfin HQ4 HRD4 HFR4 HZ4 HO HO0 HPO HSEP HO1
   go_wp2_with fail
   go_roundw
   case rel => exact ⟨j + 1, by omega, by go_num, HFIN.out, HFR5.out⟩
   case measure => simp [intOf]; omega
  ·have hge : ¬ ((j : Int) < (xs.length : Int)) := by omega
   rw [List.take_of_length_le (by rw [p0Q]; omega)] at hS
   have HS := Lib.hid hS
   have HF := Lib.hid hfj
   clear hS hfj hlt
   go_wp2_with fail
   go_ret
   exact ⟨_, rfl, HS.out, HF.out⟩
theorem D0C (x : Nat) {l : List UInt8} (h : b0D l = true) : tS (b0c (x % mQ.M)) l = b0C (a0P x (c0r l)) := by
 rw [(t_ok (l0m x) h).2, p0P, w0T, h0K (m0I h)]
theorem OwnB1.back {w0 w w' : World} {v : Value} {l : List UInt8} (h : OwnB1 w w' v l) (hs : w0.heap.size ≤ w.heap.size) : OwnB1 w0 w' v l := Own.mono h hs
theorem OwnU.b1 {w w' : World} {v : Value} {l : List UInt8} (h : OwnB1 w w' v l) : OwnU w' v l := Own.mono h (Nat.zero_le _)
theorem OwnU.ptb {w : World} {v : Value} {l : List UInt8} (h : OwnU w v l) (hn : l.length ≤ 1000000) : PartIs w v l := b0Y h hn
theorem A0b (x : Nat) (va : Value) (l : List UInt8) (w : World) (hp : BPart w va l) :
  Calls Tryz.prog 76 #[i4 (elN mQ x), va] w fun e w' => ∃ v, e = .returned v ∧ OwnB1 w w' v (tS (b0c (x % mQ.M)) l) ∧ Fr Nob w w' := by
 have HP := Lib.hid hp
 clear hp
 have st0 := St.start Nob w
 go_enter Tryz.func76, Tryz.ntmps76
 go_wp2_with (with_reducible refine wSk 2 ?_)
 refine a0l st0 rfl rfl rfl (cw 4 (elN mQ x)) rfl ?_
 intro g2 w1 st1
 clear st0
 go_wp2_with (with_reducible refine wSk 8 ?_)
 refine a0m st1 0 rfl rfl rfl Tryz.underlying61 rfl rfl (f0h _) ?_
 go_wp2_with fail
 refine (p0O x _).mono ?_
 rintro e' w2 ⟨y, rfl, hb, hf2⟩
 have hfr2 := st1.fr.then hf2
 have HB := Lib.hid hb
 have HF := Lib.hid hfr2
 clear st1 hb hf2 hfr2
 go_wp2_with fail
 refine (w0o _ va _ l _ HB.out (HP.out.still HF.out)).mono ?_
 rintro e' w3 ⟨v, rfl, ho, hf3⟩
 have HO := Lib.hid (OwnB1.back ho HF.out.size)
 have hfr := HF.out.then hf3
 clear ho hf3 HF HB HP
 go_wp2_with fail
 go_ret
 exact ⟨v, rfl, HO.out, hfr⟩
theorem u0g (w : World) : Calls Tryz.prog 28 #[] w fun e w' => ∃ y : Option Addr × Nat, e = .returned (.slice y.1 33 y.2) ∧ BPart w' (.slice y.1 33 y.2) (b0C gP) ∧ Fr Nob w w' := by
 refine (t0B w).mono ?_
 rintro e w' ⟨v, rfl, ho, hf⟩
 have h := ho.part
 obtain ⟨a, n, c, rfl, hc, hr⟩ := h
 have hn : n = 33 := by rw [← hr.len, c0j]
 subst hn
 exact ⟨(a, c), rfl, ⟨a, 33, c, rfl, hc, hr⟩, hf⟩
theorem x0T (x : Nat) (w : World) :
  Calls Tryz.prog 43 #[i4 (elN mQ x)] w fun e w' => ∃ v, e = .returned v ∧ OwnB1 w w' v (b0C (a0P x gP)) ∧ Fr Nob w w' := by
 have st0 := St.start Nob w
 go_enter Tryz.func43, Tryz.ntmps43
 go_wp2_with (with_reducible refine wSk 1 ?_)
 refine a0l st0 rfl rfl rfl (cw 4 (elN mQ x)) rfl ?_
 intro g1 w1 st1
 clear st0
 go_wp2_with fail
 refine wp_region_noPanic ?_
 refine a0f st1 3 [.t 0, .c 1, .c 2] (.m 3 .nil) ap11 ap11 (fun _ _ _ _ _ h => h) ?_
 clear st1
 refine a0d rfl rfl rfl (fun _ => rfl) (cw 4 (elN mQ x)) (fun wx hS => St.rangeL hS 0 rfl 0 _ dZl) Tryz.underlying61 rfl ap4 ?_
 try simp only [clL]
 refine d0g (X := Option Addr × Nat) (fun y => .slice y.1 33 y.2) (fun y w => BPart w (.slice y.1 33 y.2) (b0C gP)) (fun _ _ _ h k => h.still k) rfl rfl rfl Tryz.call28 (fun w hS hR => u0g _) (fun _ => rfl) fun y4 => ?_
 try simp only [clL]
 refine d0g (X := Value) (fun v => v) (fun v wx => OwnB1 w wx v (tS (b0c (x % mQ.M)) (b0C gP))) (fun _ _ _ h k => h.still k) rfl rfl rfl Tryz.call76 (fun w hS hR => (A0b x _ _ _ hR.2).mono fun e w' ⟨v, h1, h2, h3⟩ => ⟨v, h1, h2.back hS.fr.size, h3⟩) (fun _ => rfl) fun v => ?_
 try simp only [clL]
 refine a0v fun xq w2 st2 hR => ?_
 try dsimp only
 have HV := Lib.hid hR.2
 clear hR xq
 refine a0r rfl rfl ?_
 go_simp
 try simp only [clL]
 refine a0j ?_
 refine NoPanic.normal ?_
 have hfr := st2.fr
 clear st2
 go_wp2_with fail
 go_ret
 refine ⟨v, rfl, ?_, hfr⟩
 have h := HV.out
 rwa [D0C x (n0V l0d).1, (n0V l0d).2] at h
theorem POwn.bpartsT {w : World} {base : Nat} : ∀ {vs : List Value} {ls : List (List UInt8)}, POwn w base vs ls → BParts w vs ls := by
 intro vs ls h
 refine ⟨h.len, fun i v hv => ?_⟩
 obtain ⟨l, hl, ho⟩ := h.get i v hv
 obtain ⟨a, c, rfl, hc, hr, -⟩ := ho.form
 rw [Nat.mul_one] at hr
 rw [List.getD_eq_getElem?_getD, hl]
 exact ⟨a, _, c, rfl, hc, hr⟩
theorem SOwn.bpartsT {w : World} {base : Nat} {v : Value} {ls : List (List UInt8)} (h : SOwn w base v ls) : ∃ a c vs, v = .slice a ls.length c ∧ Rd w a ls.length vs ∧ BParts w vs ls := by
 obtain ⟨vs, h1, h2, h3⟩ := h
 obtain ⟨a, c, rfl, hc, hr, -⟩ := h1.form
 rw [Nat.mul_one] at hr
 exact ⟨a, c, vs, rfl, hr, h2.bpartsT⟩
theorem D0a (al : Option Addr) (c : Nat) (xs : List Nat) (bl : Option Addr) (d : Nat) (us : List Value) (lp : List (List UInt8)) (w : World) (hv : Rd w al (xs.length * 4) (d0N xs)) (hn : xs.length ≤ 100000) (hu : Rd w bl lp.length us) (hq : BParts w us lp) :
  Calls Tryz.prog 58 #[.slice al xs.length c, .slice bl lp.length d] w fun e w' => ∃ v, e = .returned v ∧ OwnB1 w w' v (j0W (zB xs) lp) ∧ Fr Nob w w' := by
 have HV := Lib.hid hv
 have HU := Lib.hid hu
 have HQ := Lib.hid hq
 clear hv hu hq
 go_enter Tryz.func58, Tryz.ntmps58
 go_wp2_with fail
 refine (w0U al c xs _ HV.out hn).mono ?_
 rintro e' w2 ⟨v, rfl, hs, hf2⟩
 obtain ⟨a, c2, vs, rfl, hr, hb⟩ := hs.bpartsT
 have HR := Lib.hid hr
 have HB := Lib.hid hb
 have HF := Lib.hid hf2
 clear hs hr hb hf2 HV
 go_wp2_with fail
 refine (z0W a c2 vs (zB xs) bl d us lp _ HR.out HB.out (HU.out.still HF.out) (HQ.out.still HF.out)).mono ?_
 rintro e' w3 ⟨v, rfl, ho, hf3⟩
 have HO := Lib.hid (OwnB1.back ho HF.out.size)
 have hfr := HF.out.then hf3
 clear ho hf3 HF HR HB HU HQ
 go_wp2_with fail
 go_ret
 exact ⟨v, rfl, HO.out, hfr⟩
theorem o0u (a : Option Addr) (c : Nat) (l : List UInt8) (hl : l.length = 33) (w : World) (hp : RdB w a 33 l) (b : Bool) (hb : (((l.getD 0 0).toNat : Int) == 0) = b) :
  Calls Tryz.prog 57 #[.slice a 33 c] w fun e w' => e = .returned (.bool b) ∧ w = w' := by
 obtain ⟨g, o, rfl, -⟩ := hp.at ap12
 have hc := u0c (show Rd w (some ⟨g, o, none⟩) 33 (bs l) from hp) 0 _ (j0m l 0 ap13)
 rw [Nat.add_zero] at hc
 clear hp hl
 generalize l.getD 0 0 = x at *
 go_enter Tryz.func57, Tryz.ntmps57
 go_wp2_with fail
 go_ret
 exact ⟨rfl, rfl⟩
theorem w0V {l : List UInt8} (h : b0D l = true) : l.length = 33 := by
 unfold b0D at h
 simp only [Bool.and_eq_true, decide_eq_true_eq] at h
 exact h.1
def c0F (ls : List (List UInt8)) : Bool := ls.all c0c
theorem o0v (ls : List (List UInt8)) (k : Nat) (h : k < ls.length) : c0F (ls.take (k + 1)) = (c0F (ls.take k) && c0c (ls.getD k [])) := by
 unfold c0F
 rw [List.take_succ_eq_append_getElem h, List.all_append, List.getD_eq_getElem?_getD, List.getElem?_eq_getElem h]
 simp
theorem r0k (ls : List (List UInt8)) (k : Nat) (h : k < ls.length) (hb : c0c (ls.getD k []) = false) : c0F ls = false := by
 unfold c0F
 rw [List.all_eq_false]
 refine ⟨ls.getD k [], ?_, by rw [hb]; decide⟩
 rw [List.getD_eq_getElem?_getD, List.getElem?_eq_getElem h]
 exact List.getElem_mem h
theorem u0h {l : List UInt8} (h : b0D l = false) : c0c l = false := by unfold c0c; rw [h]; rfl
theorem A0c {l : List UInt8} (h : (((l.getD 0 0).toNat : Int) == 0) = true) : c0c l = false := by
 have h2 : l.getD 0 0 = 0 := by
  have h3 : ((l.getD 0 0).toNat : Int) = 0 := eq_of_beq h
  exact UInt8.toNat_inj.1 (by simpa using h3)
 unfold c0c; rw [decide_eq_true h2]; simp
theorem A0d {l : List UInt8} (h1 : b0D l = true) (h : (((l.getD 0 0).toNat : Int) == 0) = false) : c0c l = true := by
 have h2 : l.getD 0 0 ≠ 0 := by
  intro h3
  rw [h3] at h
  exact absurd h ap12
 unfold c0c; rw [h1, decide_eq_false h2]; rfl
attribute [local irreducible] c0c c0F
theorem g0I (al : Option Addr) (n c : Nat) (vs : List Value) (ls : List (List UInt8)) (w : World) (hv : Rd w al n vs) (hp : BParts w vs ls) (hn : n ≤ 100000) :
  Calls Tryz.prog 74 #[.slice al n c] w fun e w' => e = .returned (.bool (c0F ls)) ∧ Fr Nob w w' := by
 have HV := Lib.hid hv
 have HP := Lib.hid hp
 have HL := Lib.hid (show ls.length = n by rw [← hp.1, hv.len])
 clear hv hp
 go_enter Tryz.func74, Tryz.ntmps74
 go_wp2
 go_loopw [7] (fun i wr => ∃ k : Nat, k ≤ n ∧ i = .int .i64 (k : Int) ∧ c0F (ls.take k) = true ∧ Fr Nob w wr) (fun i _ => n - (intOf i).toNat)
 case atStart => exact ⟨0, Nat.zero_le _, rfl, by rw [List.take_zero]; unfold c0F; rfl, Fr.refl _ _⟩
 case round =>
  obtain ⟨k, hk, rfl, hgood, hf⟩ := hrel
  by_cases hlt : k < n
  ·have hltI : (k : Int) < (n : Int) := by omega
   obtain ⟨b, o, rfl, hat⟩ := (HV.out.still hf).at ap13
   have hvl : k < vs.length := by rw [HV.out.len]; exact hlt
   obtain ⟨a, nn, cc, hve, hcc, hrd⟩ := HP.out.2 k (vs[k]'hvl) (List.getElem?_eq_getElem hvl)
   have hc1 := hat k _ (List.getElem?_eq_getElem hvl)
   rw [hve] at hc1
   have hlk : k < ls.length := by rw [HL.out]; exact hlt
   have hts := o0v ls k hlk
   have hbad := r0k ls k hlk
   generalize hL : ls.getD k [] = l at *
   have HRD := Lib.hid (hrd.still hf)
   have HCC := Lib.hid hcc
   have HTS := Lib.hid hts
   have HBAD := Lib.hid hbad
   have HG := Lib.hid hgood
   have HF := Lib.hid hf
   have hnI : (n : Int) ≤ 100000 := by omega
   clear hL hrd hcc hts hbad hgood hf hat hve
   cases hq : b0D l
   ·have HQ := Lib.hid hq
    clear hq
    go_wp2_with fail
    refine (h0r _ l _ ⟨a, nn, cc, rfl, HCC.out, HRD.out⟩ HQ.out).mono ?_
    rintro e' w2 ⟨rfl, hf2⟩
    have hfr := HF.out.then hf2
    have HB := Lib.hid (HBAD.out (u0h HQ.out))
    clear hf2 HF HBAD HQ HRD HG HTS
    go_wp2_with fail
    go_ret
    exact ⟨by rw [HB.out]; rfl, hfr⟩
   ·have h33 := w0V hq
    have hnn : nn = 33 := by rw [← HRD.out.len, h33]
    subst hnn
    obtain ⟨b2, o2, rfl, -⟩ := HRD.out.at ap12
    have HQ := Lib.hid hq
    have H33 := Lib.hid h33
    clear hq h33
    go_wp2_with fail
    refine (f0M _ l _ ⟨_, 33, cc, rfl, HCC.out, HRD.out⟩ HQ.out).mono ?_
    rintro e' w2 ⟨rfl, hf2⟩
    have hfr := HF.out.then hf2
    have hc2 := u0c (show Rd w2 (some ⟨b2, o2, none⟩) 33 (bs l) from HRD.out.still hf2) 0 _ (j0m l 0 (by rw [H33.out]; decide))
    rw [Nat.add_zero] at hc2
    have HFR := Lib.hid hfr
    have HZT := Lib.hid (show (((l.getD 0 0).toNat : Int) == 0) = false → c0F (ls.take (k + 1)) = true from fun hz => by rw [HTS.out, HG.out, A0d HQ.out hz]; rfl)
    have HBT := Lib.hid (show (((l.getD 0 0).toNat : Int) == 0) = true → c0F ls = false from fun hz => HBAD.out (A0c hz))
    generalize l.getD 0 0 = x at hc2 HZT HBT
    clear hf2 hfr HF HRD hc1 HTS HG HBAD
    cases hz : ((x.toNat : Int) == 0)
    ·have HZ := Lib.hid (HZT.out hz)
     clear HZT HBT
     go_wp2_with fail
     go_roundw
     case rel => exact ⟨k + 1, by omega, by go_num, HZ.out, HFR.out⟩
     case measure => simp [intOf]; omega
    ·have HB := Lib.hid (HBT.out hz)
     clear HZT HBT
     go_wp2_with fail
     go_ret
     exact ⟨by rw [HB.out]; rfl, HFR.out⟩
  ·have hge : ¬ ((k : Int) < (n : Int)) := by omega
   have hkn : k = ls.length := by rw [HL.out]; omega
   rw [hkn, List.take_of_length_le (Nat.le_refl _)] at hgood
   have HG := Lib.hid hgood
   have HF := Lib.hid hf
   clear hkn hgood hf
   go_wp2_with fail
   go_ret
   exact ⟨by rw [HG.out]; rfl, HF.out⟩
theorem w0W (ak : Option Addr) (nk ck : Nat) (key : List UInt8) (w : World) (hkey : RdB w ak nk key) (hq : b0e mQ key = false) : Calls Tryz.prog 41 #[.slice ak nk ck] w fun e w' => e = .returned (.tuple #[i4 0, .int .i64 3]) ∧ Fr Nob w w' := by
 have HKY := Lib.hid hkey
 have HN := Lib.hid hq
 clear hkey hq
 have st0 := St.start Nob w
 go_enter Tryz.func41, Tryz.ntmps41
 go_wp2_with (with_reducible refine wSk 2 ?_)
 refine a0a st0 rfl rfl (z := zAd) ap11 (cw 4 0) ap9 ?_
 intro g2 w1 st1
 clear st0
 go_wp2_with fail
 refine (y0S mQ .one ak nk ck key _ (HKY.out.still st1.fr) HN.out).mono ?_
 rintro e' w2 ⟨rfl, hf2⟩
 have st2 := st1.keep hf2
 clear st1 hf2
 go_wp2_with (with_reducible refine wSk 4 ?_)
 refine a0a st2 rfl rfl (z := zAd) ap11 (cw 4 0) ap9 ?_
 intro g4 w3 st3
 clear st2
 go_wp2_with (with_reducible refine wSn ?_)
 refine a0b st3 1 rfl rfl rfl rfl rfl ap5 ap4 (a0g _ _) ?_
 intro w4 st4
 clear st3
 go_wp2_with (with_reducible refine wSk 17 ?_)
 refine a0m st4 1 rfl rfl rfl Tryz.underlying61 rfl rfl ap4 ?_
 go_wp2_with (with_reducible refine wSn ?_)
 refine a0b st4 0 rfl rfl rfl rfl rfl ap5 ap4 (a0g _ _) ?_
 intro w5 st5
 clear st4
 have hr := st5.at 0 rfl
 have hfr := st5.fr
 clear st5
 go_wp2_with fail
 exact bodyPost_ret (a0x rfl rfl hr Tryz.underlying61 rfl ap4 rfl) rfl ⟨rfl, hfr⟩
theorem w0X (ak : Option Addr) (nk ck : Nat) (key : List UInt8) (w : World) (hkey : RdB w ak nk key) (hq : b0e mQ key = true) (hz : (beN key % mQ.M == 0) = true) : Calls Tryz.prog 41 #[.slice ak nk ck] w fun e w' => e = .returned (.tuple #[i4 (elN mQ (beN key)), .int .i64 3]) ∧ Fr Nob w w' := by
 have HZ := Lib.hid hz
 clear hz
 have HKY := Lib.hid hkey
 have HN := Lib.hid hq
 clear hkey hq
 have st0 := St.start Nob w
 go_enter Tryz.func41, Tryz.ntmps41
 go_wp2_with (with_reducible refine wSk 2 ?_)
 refine a0a st0 rfl rfl (z := zAd) ap11 (cw 4 0) ap9 ?_
 intro g2 w1 st1
 clear st0
 go_wp2_with fail
 refine (v0D mQ .one ak nk ck key _ (HKY.out.still st1.fr) HN.out).mono ?_
 rintro e' w2 ⟨rfl, hf2⟩
 have st2 := st1.keep hf2
 clear st1 hf2
 go_wp2_with (with_reducible refine wSk 4 ?_)
 refine a0a st2 rfl rfl (z := zAd) ap11 (cw 4 0) ap9 ?_
 intro g4 w3 st3
 clear st2
 go_wp2_with (with_reducible refine wSn ?_)
 refine a0b st3 1 rfl rfl rfl rfl rfl ap5 ap4 (a0g _ _) ?_
 intro w4 st4
 clear st3
 go_wp2_with (with_reducible refine wSk 14 ?_)
 refine p0c st4 1 rfl rfl rfl Tryz.underlying61 rfl rfl ap4 ?_
 go_wp2_with fail
 refine (m0o mQ n0D (beN key) true HZ.out _).mono ?_
 rintro e' w5 ⟨rfl, hf5⟩
 have st5 := st4.keep hf5
 clear st4 hf5
 go_wp2_with (with_reducible refine wSk 17 ?_)
 refine a0m st5 1 rfl rfl rfl Tryz.underlying61 rfl rfl ap4 ?_
 go_wp2_with (with_reducible refine wSn ?_)
 refine a0b st5 0 rfl rfl rfl rfl rfl ap5 ap4 (a0g _ _) ?_
 intro w6 st6
 clear st5
 have hr := st6.at 0 rfl
 have hfr := st6.fr
 clear st6
 go_wp2_with fail
 exact bodyPost_ret (a0x rfl rfl hr Tryz.underlying61 rfl ap4 rfl) rfl ⟨rfl, hfr⟩
theorem w0Y (ak : Option Addr) (nk ck : Nat) (key : List UInt8) (w : World) (hkey : RdB w ak nk key) (hq : b0e mQ key = true) (hz : (beN key % mQ.M == 0) = false) : Calls Tryz.prog 41 #[.slice ak nk ck] w fun e w' => e = .returned (.tuple #[i4 (elN mQ (beN key)), .int .i64 0]) ∧ Fr Nob w w' := by
 have HZ := Lib.hid hz
 clear hz
 have HKY := Lib.hid hkey
 have HN := Lib.hid hq
 clear hkey hq
 have st0 := St.start Nob w
 go_enter Tryz.func41, Tryz.ntmps41
 go_wp2_with (with_reducible refine wSk 2 ?_)
 refine a0a st0 rfl rfl (z := zAd) ap11 (cw 4 0) ap9 ?_
 intro g2 w1 st1
 clear st0
 go_wp2_with fail
 refine (v0D mQ .one ak nk ck key _ (HKY.out.still st1.fr) HN.out).mono ?_
 rintro e' w2 ⟨rfl, hf2⟩
 have st2 := st1.keep hf2
 clear st1 hf2
 go_wp2_with (with_reducible refine wSk 4 ?_)
 refine a0a st2 rfl rfl (z := zAd) ap11 (cw 4 0) ap9 ?_
 intro g4 w3 st3
 clear st2
 go_wp2_with (with_reducible refine wSn ?_)
 refine a0b st3 1 rfl rfl rfl rfl rfl ap5 ap4 (a0g _ _) ?_
 intro w4 st4
 clear st3
 go_wp2_with (with_reducible refine wSk 14 ?_)
 refine p0c st4 1 rfl rfl rfl Tryz.underlying61 rfl rfl ap4 ?_
 go_wp2_with fail
 refine (m0o mQ n0D (beN key) false HZ.out _).mono ?_
 rintro e' w5 ⟨rfl, hf5⟩
 have st5 := st4.keep hf5
 clear st4 hf5
 go_wp2_with (with_reducible refine wSk 18 ?_)
 refine a0m st5 1 rfl rfl rfl Tryz.underlying61 rfl rfl ap4 ?_
 go_wp2_with (with_reducible refine wSn ?_)
 refine a0b st5 0 rfl rfl rfl rfl rfl ap5 ap4 (a0g _ _) ?_
 intro w6 st6
 clear st5
 have hr := st6.at 0 rfl
 have hfr := st6.fr
 clear st6
 go_wp2_with fail
 exact bodyPost_ret (a0x rfl rfl hr Tryz.underlying61 rfl ap4 rfl) rfl ⟨rfl, hfr⟩
theorem u0i (ak : Option Addr) (nk ck : Nat) (key : List UInt8) (w : World) (hkey : RdB w ak nk key) (h : j0T key = true) : Calls Tryz.prog 41 #[.slice ak nk ck] w fun e w' => e = .returned (.tuple #[i4 (elN mQ (beN key)), .int .i64 0]) ∧ Fr Nob w w' := by
 unfold j0T at h
 rw [Bool.and_eq_true] at h
 have hlt := g0G h.1
 refine w0Y ak nk ck key w hkey h.1 ?_
 rw [Nat.mod_eq_of_lt hlt]
 simpa using h.2
theorem u0j (ak : Option Addr) (nk ck : Nat) (key : List UInt8) (w : World) (hkey : RdB w ak nk key) (h : j0T key = false) : Calls Tryz.prog 41 #[.slice ak nk ck] w fun e w' => (∃ N : Nat, e = .returned (.tuple #[i4 N, .int .i64 3])) ∧ Fr Nob w w' := by
 unfold j0T at h
 cases hq : b0e mQ key with
 | false => exact (w0W ak nk ck key w hkey hq).mono fun e w' k => ⟨⟨_, k.1⟩, k.2⟩
 | true =>
  have hlt := g0G hq
  rw [hq, Bool.true_and] at h
  refine (w0X ak nk ck key w hkey hq ?_).mono fun e w' k => ⟨⟨_, k.1⟩, k.2⟩
  rw [Nat.mod_eq_of_lt hlt]
  simpa using h
end Go.Proofs.YtmebmhjppmfbbaaGreat
