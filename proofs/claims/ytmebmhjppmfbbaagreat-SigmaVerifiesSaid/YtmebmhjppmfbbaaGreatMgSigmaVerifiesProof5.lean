/- ; ; ; ; ; ; ; ; ; ; ; ; ; ; . -/
import Derived.Test.YtmebmhjppmfbbaaGreatMgSigmaVerifiesProof4
import Derived.Test.YtmebmhjppmfbbaaGreatMgSigmaVerifiesProof2
import Derived.Test.YtmebmhjppmfbbaaGreatMgSigmaVerifiesProof3
import Derived.Test.YtmebmhjppmfbbaaGreatMgSigmaVerifiesProof1

set_option maxHeartbeats 16000000
set_option maxRecDepth 1000000
namespace Go.Proofs.YtmebmhjppmfbbaaGreat
open Go.RowKit Go.Mv Mvp
attribute [local irreducible] a0E lw mix cw b0o b0x b0l a0L a0q beN b0F b0c b0z a0J a0N elN mdL b0e
def C0N (b c : Bool) (u v x : Value) : Value := match b, c with
 | false, _ => x
 | true, false => v
 | true, true => u
theorem s0X (m : Md) (gc gp bx by_ : Nat) (w : World) (hok : m.Ok) (hcv : Has w gc (f0C m gp bx by_) 122) (hpm : Has w gp (mdL m) 185) (x1 y1 z1 x2 y2 z2 : Nat) (hb1 : (z1 % m.M == 0) = false) (hb2 : (z2 % m.M == 0) = false) (pp qq u1 u2 q3 s1 p3 s2 hd rr hh h3 v r2 v2 t1 X t2 t3 t4 Y zz Z DX DY DZ : Nat) (epp : z1 * z1 = pp) (eqq : z2 * z2 = qq) (eu1 : x1 * qq = u1) (eu2 : x2 * pp = u2) (eq3 : qq * z2 = q3) (es1 : y1 * q3 = s1) (ep3 : pp * z1 = p3) (es2 : y2 * p3 = s2) (ehd : u2 + (m.M - u1 % m.M) = hd) (err : s2 + (m.M - s1 % m.M) = rr) (ehh : hd * hd = hh) (eh3 : hh * hd = h3) (ev : u1 * hh = v) (er2 : rr * rr = r2) (ev2 : v + v = v2) (et1 : h3 + v2 = t1) (eX : r2 + (m.M - t1 % m.M) = X) (et2 : v + (m.M - X % m.M) = t2) (et3 : rr * t2 = t3) (et4 : s1 * h3 = t4) (eY : t3 + (m.M - t4 % m.M) = Y) (ezz : z1 * z2 = zz) (eZ : hd * zz = Z) (hd0 : ((hd % m.M == 0) = true → (rr % m.M == 0) = true → ∀ wx, Fr Nob w wx → Calls Tryz.prog 154 #[.pointer (some ⟨gc, 0, none⟩), ptV m x1 y1 z1] wx fun e w' => e = .returned (ptV m DX DY DZ) ∧ Fr Nob wx w')) :
  Calls Tryz.prog 155 #[.pointer (some ⟨gc, 0, none⟩), ptV m x1 y1 z1, ptV m x2 y2 z2] w fun e w' => e = .returned (C0N (hd % m.M == 0) (rr % m.M == 0) (ptV m DX DY DZ) (ptV m 1 1 0) (ptV m X Y Z)) ∧ Fr Nob w w' := by
 have HOK := Lib.hid hok
 have HCV := Lib.hid hcv
 have HPM := Lib.hid hpm
 clear hok hcv hpm
 have HB1 := Lib.hid hb1
 have HB2 := Lib.hid hb2
 have Hpp := Lib.hid epp
 have Hqq := Lib.hid eqq
 have Hu1 := Lib.hid eu1
 have Hu2 := Lib.hid eu2
 have Hq3 := Lib.hid eq3
 have Hs1 := Lib.hid es1
 have Hp3 := Lib.hid ep3
 have Hs2 := Lib.hid es2
 have Hhd := Lib.hid ehd
 have Hrr := Lib.hid err
 have Hhh := Lib.hid ehh
 have Hh3 := Lib.hid eh3
 have Hv := Lib.hid ev
 have Hr2 := Lib.hid er2
 have Hv2 := Lib.hid ev2
 have Ht1 := Lib.hid et1
 have HX := Lib.hid eX
 have Ht2 := Lib.hid et2
 have Ht3 := Lib.hid et3
 have Ht4 := Lib.hid et4
 have HY := Lib.hid eY
 have Hzz := Lib.hid ezz
 have HZ := Lib.hid eZ
 have HD0 := Lib.hid hd0
 clear hd0 hb1 hb2 epp eqq eu1 eu2 eq3 es1 ep3 es2 ehd err ehh eh3 ev er2 ev2 et1 eX et2 et3 et4 eY ezz eZ
 unfold ptV ptL
 have st0 := St.start Nob w
 go_enter Tryz.func155, Tryz.ntmps155
 go_wp2_with (with_reducible refine wSk 4 ?_)
 refine a0l st0 rfl rfl rfl (cw 4 (elN m x1) ++ (cw 4 (elN m y1) ++ cw 4 (elN m z1))) rfl ?_
 intro g4 w1 st1
 clear st0
 go_wp2_with (with_reducible refine wSk 5 ?_)
 refine a0l st1 rfl rfl rfl (cw 4 (elN m x2) ++ (cw 4 (elN m y2) ++ cw 4 (elN m z2))) rfl ?_
 intro g5 w2 st2
 clear st1
 go_wp2_with (with_reducible refine wSk 6 ?_)
 refine a0a st2 rfl rfl (z := zAc) (by kernel_rfl) (cw 12 0) (by rw [f0L]; rfl) ?_
 intro g6 w3 st3
 clear st2
 go_wp2_with (with_reducible refine wSk 20 ?_)
 refine a0m st3 0 rfl rfl rfl Tryz.underlying114 rfl rfl (by kernel_rfl) ?_
 go_wp2_with fail
 refine (d0v m HOK.out x1 y1 z1 false HB1.out _).mono ?_
 rintro e' w4 ⟨rfl, hf4⟩
 have st4 := st3.keep hf4
 clear st3 hf4
 go_wp2_with (with_reducible refine wSk 24 ?_)
 refine a0m st4 1 rfl rfl rfl Tryz.underlying114 rfl rfl (by kernel_rfl) ?_
 go_wp2_with fail
 refine (d0v m HOK.out x2 y2 z2 false HB2.out _).mono ?_
 rintro e' w5 ⟨rfl, hf5⟩
 have st5 := st4.keep hf5
 clear st4 hf5
 go_wp2_with fail
 refine wp_region_noPanic ?_
 refine a0f st5 17 [.o 14, .o 15, .w 0, .w 1, .w 2, .t 3, .w 4, .t 5, .w 7, .w 8, .w 9, .t 10, .w 11, .t 12, .c 6, .c 13, .j 14, .j 15] (.r 16 (.m 17 .nil)) (by kernel_rfl) (by kernel_rfl) (fun _ _ _ _ _ h => h) ?_
 clear st5
 refine b0p rfl rfl rfl j0a (cw 4 0) rfl ?_
 try simp only [clL]
 refine b0p rfl rfl rfl j0a (cw 4 0) rfl ?_
 try simp only [clL]
 refine a0p (v := ?_) rfl rfl (fun xq wx => ?_) ?_
 rotate_left 1
 ·(go_simp; with_reducible rfl)
 try simp only [clL]
 refine a0p (v := ?_) rfl rfl (fun xq wx => ?_) ?_
 rotate_left 1
 ·(go_simp; with_reducible rfl)
 try simp only [clL]
 refine a0p (v := ?_) rfl rfl (fun xq wx => ?_) ?_
 rotate_left 1
 ·(go_simp; with_reducible rfl)
 try simp only [clL]
 refine b0h (v := ?_) rfl rfl (fun xq wx hS => ?_) ?_
 rotate_left 1
 ·(have hc := (HCV.out.keep (St.fr hS) id).cell (i := 0) rfl; clear hS; go_simp; with_reducible rfl)
 try simp only [clL]
 refine a0p (v := ?_) rfl rfl (fun xq wx => ?_) ?_
 rotate_left 1
 ·(go_simp; with_reducible rfl)
 try simp only [clL]
 refine a0d rfl rfl rfl (fun _ => rfl) (cw 4 (elN m z1)) (fun wx hS => St.rangeL hS 0 rfl 8 _ (f0c _ _ _)) Tryz.underlying59 rfl (by kernel_rfl) ?_
 try simp only [clL]
 refine a0p (v := ?_) rfl rfl (fun xq wx => ?_) ?_
 rotate_left 1
 ·(go_simp; with_reducible rfl)
 try simp only [clL]
 refine a0p (v := ?_) rfl rfl (fun xq wx => ?_) ?_
 rotate_left 1
 ·(go_simp; with_reducible rfl)
 try simp only [clL]
 refine a0p (v := ?_) rfl rfl (fun xq wx => ?_) ?_
 rotate_left 1
 ·(go_simp; with_reducible rfl)
 try simp only [clL]
 refine b0h (v := ?_) rfl rfl (fun xq wx hS => ?_) ?_
 rotate_left 1
 ·(have hc := (HCV.out.keep (St.fr hS) id).cell (i := 0) rfl; clear hS; go_simp; with_reducible rfl)
 try simp only [clL]
 refine a0p (v := ?_) rfl rfl (fun xq wx => ?_) ?_
 rotate_left 1
 ·(go_simp; with_reducible rfl)
 try simp only [clL]
 refine a0d rfl rfl rfl (fun _ => rfl) (cw 4 (elN m z2)) (fun wx hS => St.rangeL hS 1 rfl 8 _ (f0c _ _ _)) Tryz.underlying59 rfl (by kernel_rfl) ?_
 try simp only [clL]
 refine a0c rfl rfl rfl Tryz.call147 (fun w hS hR => b0S m gp _ HOK.out (HPM.out.keep hS.fr id) z1 pp Hpp.out) (fun _ => rfl) ?_
 try simp only [clL]
 refine a0c rfl rfl rfl Tryz.call147 (fun w hS hR => b0S m gp _ HOK.out (HPM.out.keep hS.fr id) z2 qq Hqq.out) (fun _ => rfl) ?_
 try simp only [clL]
 refine b0q (List.mem_cons_of_mem _ List.mem_cons_self) fun g7 => ?_
 simp only [upd, reduceIte]
 try simp only [Nat.reduceEqDiff, reduceIte]
 refine b0q List.mem_cons_self fun g8 => ?_
 simp only [upd, reduceIte]
 refine a0v fun xq w6 st6 hR => ?_
 try dsimp only
 clear hR xq
 refine a0y rfl rfl ?_
 refine a0h st6 3 rfl rfl rfl rfl (by simp [a0e]) (by kernel_rfl) (a0g _ _) ?_
 intro w7 st7
 repeat (first | simp only [List.cons_append] at st7 | simp only [List.nil_append] at st7 | simp only [List.set_cons_succ] at st7 | simp only [List.set_cons_zero] at st7)
 clear st6
 refine ⟨by first | exact st7 | exact St.less st7 (by simp), ?_⟩
 try simp only [Act.put]
 refine a0r rfl rfl ?_
 refine a0h st7 4 rfl rfl rfl rfl (by simp [a0e]) (by kernel_rfl) (a0g _ _) ?_
 intro w8 st8
 try simp only [List.set_cons_zero, List.set_cons_succ] at st8
 clear st7
 try simp only [Act.put]
 refine a0j ?_
 refine NoPanic.normal ?_
 go_wp2_with fail
 refine wp_region_noPanic ?_
 refine a0f st8 19 [.o 16, .o 17, .w 0, .w 1, .w 2, .t 3, .w 4, .t 5, .t 6, .w 8, .w 9, .w 10, .t 11, .w 12, .t 13, .t 14, .c 7, .c 15, .j 16, .j 17] (.r 18 (.m 19 .nil)) (by kernel_rfl) (by kernel_rfl) (fun _ _ _ _ _ h => h) ?_
 clear st8
 refine b0p rfl rfl rfl j0a (cw 4 0) rfl ?_
 try simp only [clL]
 refine b0p rfl rfl rfl j0a (cw 4 0) rfl ?_
 try simp only [clL]
 refine a0p (v := ?_) rfl rfl (fun xq wx => ?_) ?_
 rotate_left 1
 ·(go_simp; with_reducible rfl)
 try simp only [clL]
 refine a0p (v := ?_) rfl rfl (fun xq wx => ?_) ?_
 rotate_left 1
 ·(go_simp; with_reducible rfl)
 try simp only [clL]
 refine a0p (v := ?_) rfl rfl (fun xq wx => ?_) ?_
 rotate_left 1
 ·(go_simp; with_reducible rfl)
 try simp only [clL]
 refine b0h (v := ?_) rfl rfl (fun xq wx hS => ?_) ?_
 rotate_left 1
 ·(have hc := (HCV.out.keep (St.fr hS) id).cell (i := 0) rfl; clear hS; go_simp; with_reducible rfl)
 try simp only [clL]
 refine a0p (v := ?_) rfl rfl (fun xq wx => ?_) ?_
 rotate_left 1
 ·(go_simp; with_reducible rfl)
 try simp only [clL]
 refine a0d rfl rfl rfl (fun _ => rfl) (cw 4 (elN m x1)) (fun wx hS => St.rangeL hS 0 rfl 0 _ (i0Z _ _ _)) Tryz.underlying59 rfl (by kernel_rfl) ?_
 try simp only [clL]
 refine a0d rfl rfl rfl (fun _ => rfl) (cw 4 (elN m qq)) (fun wx hS => St.rangeL hS 4 rfl 0 _ dZl) Tryz.underlying59 rfl (by kernel_rfl) ?_
 try simp only [clL]
 refine a0p (v := ?_) rfl rfl (fun xq wx => ?_) ?_
 rotate_left 1
 ·(go_simp; with_reducible rfl)
 try simp only [clL]
 refine a0p (v := ?_) rfl rfl (fun xq wx => ?_) ?_
 rotate_left 1
 ·(go_simp; with_reducible rfl)
 try simp only [clL]
 refine a0p (v := ?_) rfl rfl (fun xq wx => ?_) ?_
 rotate_left 1
 ·(go_simp; with_reducible rfl)
 try simp only [clL]
 refine b0h (v := ?_) rfl rfl (fun xq wx hS => ?_) ?_
 rotate_left 1
 ·(have hc := (HCV.out.keep (St.fr hS) id).cell (i := 0) rfl; clear hS; go_simp; with_reducible rfl)
 try simp only [clL]
 refine a0p (v := ?_) rfl rfl (fun xq wx => ?_) ?_
 rotate_left 1
 ·(go_simp; with_reducible rfl)
 try simp only [clL]
 refine a0d rfl rfl rfl (fun _ => rfl) (cw 4 (elN m x2)) (fun wx hS => St.rangeL hS 1 rfl 0 _ (i0Z _ _ _)) Tryz.underlying59 rfl (by kernel_rfl) ?_
 try simp only [clL]
 refine a0d rfl rfl rfl (fun _ => rfl) (cw 4 (elN m pp)) (fun wx hS => St.rangeL hS 3 rfl 0 _ dZl) Tryz.underlying59 rfl (by kernel_rfl) ?_
 try simp only [clL]
 refine a0c rfl rfl rfl Tryz.call148 (fun w hS hR => c0t m gp _ HOK.out (HPM.out.keep hS.fr id) x1 qq u1 Hu1.out) (fun _ => rfl) ?_
 try simp only [clL]
 refine a0c rfl rfl rfl Tryz.call148 (fun w hS hR => c0t m gp _ HOK.out (HPM.out.keep hS.fr id) x2 pp u2 Hu2.out) (fun _ => rfl) ?_
 try simp only [clL]
 refine b0q (List.mem_cons_of_mem _ List.mem_cons_self) fun g9 => ?_
 simp only [upd, reduceIte]
 try simp only [Nat.reduceEqDiff, reduceIte]
 refine b0q List.mem_cons_self fun g10 => ?_
 simp only [upd, reduceIte]
 refine a0v fun xq w9 st9 hR => ?_
 try dsimp only
 clear hR xq
 refine a0y rfl rfl ?_
 refine a0h st9 5 rfl rfl rfl rfl (by simp [a0e]) (by kernel_rfl) (a0g _ _) ?_
 intro w10 st10
 repeat (first | simp only [List.cons_append] at st10 | simp only [List.nil_append] at st10 | simp only [List.set_cons_succ] at st10 | simp only [List.set_cons_zero] at st10)
 clear st9
 refine ⟨by first | exact st10 | exact St.less st10 (by simp), ?_⟩
 try simp only [Act.put]
 refine a0r rfl rfl ?_
 refine a0h st10 6 rfl rfl rfl rfl (by simp [a0e]) (by kernel_rfl) (a0g _ _) ?_
 intro w11 st11
 try simp only [List.set_cons_zero, List.set_cons_succ] at st11
 clear st10
 try simp only [Act.put]
 refine a0j ?_
 refine NoPanic.normal ?_
 go_wp2_with fail
 refine wp_region_noPanic ?_
 refine a0f st11 33 [.o 30, .o 31, .w 0, .w 1, .w 2, .t 3, .w 4, .t 5, .w 6, .w 7, .w 8, .t 9, .t 10, .w 11, .t 12, .w 15, .w 16, .w 17, .t 18, .w 19, .t 20, .w 21, .w 22, .w 23, .t 24, .t 25, .w 26, .t 27, .c 13, .c 14, .c 28, .c 29, .j 30, .j 31] (.r 32 (.m 33 .nil)) (by kernel_rfl) (by kernel_rfl) (fun _ _ _ _ _ h => h) ?_
 clear st11
 refine b0p rfl rfl rfl j0a (cw 4 0) rfl ?_
 try simp only [clL]
 refine b0p rfl rfl rfl j0a (cw 4 0) rfl ?_
 try simp only [clL]
 refine a0p (v := ?_) rfl rfl (fun xq wx => ?_) ?_
 rotate_left 1
 ·(go_simp; with_reducible rfl)
 try simp only [clL]
 refine a0p (v := ?_) rfl rfl (fun xq wx => ?_) ?_
 rotate_left 1
 ·(go_simp; with_reducible rfl)
 try simp only [clL]
 refine a0p (v := ?_) rfl rfl (fun xq wx => ?_) ?_
 rotate_left 1
 ·(go_simp; with_reducible rfl)
 try simp only [clL]
 refine b0h (v := ?_) rfl rfl (fun xq wx hS => ?_) ?_
 rotate_left 1
 ·(have hc := (HCV.out.keep (St.fr hS) id).cell (i := 0) rfl; clear hS; go_simp; with_reducible rfl)
 try simp only [clL]
 refine a0p (v := ?_) rfl rfl (fun xq wx => ?_) ?_
 rotate_left 1
 ·(go_simp; with_reducible rfl)
 try simp only [clL]
 refine a0d rfl rfl rfl (fun _ => rfl) (cw 4 (elN m y1)) (fun wx hS => St.rangeL hS 0 rfl 4 _ (l0q _ _ _)) Tryz.underlying59 rfl (by kernel_rfl) ?_
 try simp only [clL]
 refine a0p (v := ?_) rfl rfl (fun xq wx => ?_) ?_
 rotate_left 1
 ·(go_simp; with_reducible rfl)
 try simp only [clL]
 refine a0p (v := ?_) rfl rfl (fun xq wx => ?_) ?_
 rotate_left 1
 ·(go_simp; with_reducible rfl)
 try simp only [clL]
 refine a0p (v := ?_) rfl rfl (fun xq wx => ?_) ?_
 rotate_left 1
 ·(go_simp; with_reducible rfl)
 try simp only [clL]
 refine b0h (v := ?_) rfl rfl (fun xq wx hS => ?_) ?_
 rotate_left 1
 ·(have hc := (HCV.out.keep (St.fr hS) id).cell (i := 0) rfl; clear hS; go_simp; with_reducible rfl)
 try simp only [clL]
 refine a0d rfl rfl rfl (fun _ => rfl) (cw 4 (elN m qq)) (fun wx hS => St.rangeL hS 4 rfl 0 _ dZl) Tryz.underlying59 rfl (by kernel_rfl) ?_
 try simp only [clL]
 refine a0p (v := ?_) rfl rfl (fun xq wx => ?_) ?_
 rotate_left 1
 ·(go_simp; with_reducible rfl)
 try simp only [clL]
 refine a0d rfl rfl rfl (fun _ => rfl) (cw 4 (elN m z2)) (fun wx hS => St.rangeL hS 1 rfl 8 _ (f0c _ _ _)) Tryz.underlying59 rfl (by kernel_rfl) ?_
 try simp only [clL]
 refine a0p (v := ?_) rfl rfl (fun xq wx => ?_) ?_
 rotate_left 1
 ·(go_simp; with_reducible rfl)
 try simp only [clL]
 refine a0p (v := ?_) rfl rfl (fun xq wx => ?_) ?_
 rotate_left 1
 ·(go_simp; with_reducible rfl)
 try simp only [clL]
 refine a0p (v := ?_) rfl rfl (fun xq wx => ?_) ?_
 rotate_left 1
 ·(go_simp; with_reducible rfl)
 try simp only [clL]
 refine b0h (v := ?_) rfl rfl (fun xq wx hS => ?_) ?_
 rotate_left 1
 ·(have hc := (HCV.out.keep (St.fr hS) id).cell (i := 0) rfl; clear hS; go_simp; with_reducible rfl)
 try simp only [clL]
 refine a0p (v := ?_) rfl rfl (fun xq wx => ?_) ?_
 rotate_left 1
 ·(go_simp; with_reducible rfl)
 try simp only [clL]
 refine a0d rfl rfl rfl (fun _ => rfl) (cw 4 (elN m y2)) (fun wx hS => St.rangeL hS 1 rfl 4 _ (l0q _ _ _)) Tryz.underlying59 rfl (by kernel_rfl) ?_
 try simp only [clL]
 refine a0p (v := ?_) rfl rfl (fun xq wx => ?_) ?_
 rotate_left 1
 ·(go_simp; with_reducible rfl)
 try simp only [clL]
 refine a0p (v := ?_) rfl rfl (fun xq wx => ?_) ?_
 rotate_left 1
 ·(go_simp; with_reducible rfl)
 try simp only [clL]
 refine a0p (v := ?_) rfl rfl (fun xq wx => ?_) ?_
 rotate_left 1
 ·(go_simp; with_reducible rfl)
 try simp only [clL]
 refine b0h (v := ?_) rfl rfl (fun xq wx hS => ?_) ?_
 rotate_left 1
 ·(have hc := (HCV.out.keep (St.fr hS) id).cell (i := 0) rfl; clear hS; go_simp; with_reducible rfl)
 try simp only [clL]
 refine a0d rfl rfl rfl (fun _ => rfl) (cw 4 (elN m pp)) (fun wx hS => St.rangeL hS 3 rfl 0 _ dZl) Tryz.underlying59 rfl (by kernel_rfl) ?_
 try simp only [clL]
 refine a0p (v := ?_) rfl rfl (fun xq wx => ?_) ?_
 rotate_left 1
 ·(go_simp; with_reducible rfl)
 try simp only [clL]
 refine a0d rfl rfl rfl (fun _ => rfl) (cw 4 (elN m z1)) (fun wx hS => St.rangeL hS 0 rfl 8 _ (f0c _ _ _)) Tryz.underlying59 rfl (by kernel_rfl) ?_
 try simp only [clL]
 refine a0c rfl rfl rfl Tryz.call148 (fun w hS hR => c0t m gp _ HOK.out (HPM.out.keep hS.fr id) qq z2 q3 Hq3.out) (fun _ => rfl) ?_
 try simp only [clL]
 refine a0c rfl rfl rfl Tryz.call148 (fun w hS hR => c0t m gp _ HOK.out (HPM.out.keep hS.fr id) y1 q3 s1 Hs1.out) (fun _ => rfl) ?_
 try simp only [clL]
 refine a0c rfl rfl rfl Tryz.call148 (fun w hS hR => c0t m gp _ HOK.out (HPM.out.keep hS.fr id) pp z1 p3 Hp3.out) (fun _ => rfl) ?_
 try simp only [clL]
 refine a0c rfl rfl rfl Tryz.call148 (fun w hS hR => c0t m gp _ HOK.out (HPM.out.keep hS.fr id) y2 p3 s2 Hs2.out) (fun _ => rfl) ?_
 try simp only [clL]
 refine b0q (List.mem_cons_of_mem _ List.mem_cons_self) fun g11 => ?_
 simp only [upd, reduceIte]
 try simp only [Nat.reduceEqDiff, reduceIte]
 refine b0q List.mem_cons_self fun g12 => ?_
 simp only [upd, reduceIte]
 refine a0v fun xq w12 st12 hR => ?_
 try dsimp only
 clear hR xq
 refine a0y rfl rfl ?_
 refine a0h st12 7 rfl rfl rfl rfl (by simp [a0e]) (by kernel_rfl) (a0g _ _) ?_
 intro w13 st13
 repeat (first | simp only [List.cons_append] at st13 | simp only [List.nil_append] at st13 | simp only [List.set_cons_succ] at st13 | simp only [List.set_cons_zero] at st13)
 clear st12
 refine ⟨by first | exact st13 | exact St.less st13 (by simp), ?_⟩
 try simp only [Act.put]
 refine a0r rfl rfl ?_
 refine a0h st13 8 rfl rfl rfl rfl (by simp [a0e]) (by kernel_rfl) (a0g _ _) ?_
 intro w14 st14
 try simp only [List.set_cons_zero, List.set_cons_succ] at st14
 clear st13
 try simp only [Act.put]
 refine a0j ?_
 refine NoPanic.normal ?_
 go_wp2_with fail
 refine wp_region_noPanic ?_
 refine a0f st14 17 [.o 14, .o 15, .w 0, .w 1, .w 2, .t 3, .t 4, .t 5, .w 7, .w 8, .w 9, .t 10, .t 11, .t 12, .c 6, .c 13, .j 14, .j 15] (.r 16 (.m 17 .nil)) (by kernel_rfl) (by kernel_rfl) (fun _ _ _ _ _ h => h) ?_
 clear st14
 refine b0p rfl rfl rfl j0a (cw 4 0) rfl ?_
 try simp only [clL]
 refine b0p rfl rfl rfl j0a (cw 4 0) rfl ?_
 try simp only [clL]
 refine a0p (v := ?_) rfl rfl (fun xq wx => ?_) ?_
 rotate_left 1
 ·(go_simp; with_reducible rfl)
 try simp only [clL]
 refine a0p (v := ?_) rfl rfl (fun xq wx => ?_) ?_
 rotate_left 1
 ·(go_simp; with_reducible rfl)
 try simp only [clL]
 refine a0p (v := ?_) rfl rfl (fun xq wx => ?_) ?_
 rotate_left 1
 ·(go_simp; with_reducible rfl)
 try simp only [clL]
 refine b0h (v := ?_) rfl rfl (fun xq wx hS => ?_) ?_
 rotate_left 1
 ·(have hc := (HCV.out.keep (St.fr hS) id).cell (i := 0) rfl; clear hS; go_simp; with_reducible rfl)
 try simp only [clL]
 refine a0d rfl rfl rfl (fun _ => rfl) (cw 4 (elN m u2)) (fun wx hS => St.rangeL hS 6 rfl 0 _ dZl) Tryz.underlying59 rfl (by kernel_rfl) ?_
 try simp only [clL]
 refine a0d rfl rfl rfl (fun _ => rfl) (cw 4 (elN m u1)) (fun wx hS => St.rangeL hS 5 rfl 0 _ dZl) Tryz.underlying59 rfl (by kernel_rfl) ?_
 try simp only [clL]
 refine a0p (v := ?_) rfl rfl (fun xq wx => ?_) ?_
 rotate_left 1
 ·(go_simp; with_reducible rfl)
 try simp only [clL]
 refine a0p (v := ?_) rfl rfl (fun xq wx => ?_) ?_
 rotate_left 1
 ·(go_simp; with_reducible rfl)
 try simp only [clL]
 refine a0p (v := ?_) rfl rfl (fun xq wx => ?_) ?_
 rotate_left 1
 ·(go_simp; with_reducible rfl)
 try simp only [clL]
 refine b0h (v := ?_) rfl rfl (fun xq wx hS => ?_) ?_
 rotate_left 1
 ·(have hc := (HCV.out.keep (St.fr hS) id).cell (i := 0) rfl; clear hS; go_simp; with_reducible rfl)
 try simp only [clL]
 refine a0d rfl rfl rfl (fun _ => rfl) (cw 4 (elN m s2)) (fun wx hS => St.rangeL hS 8 rfl 0 _ dZl) Tryz.underlying59 rfl (by kernel_rfl) ?_
 try simp only [clL]
 refine a0d rfl rfl rfl (fun _ => rfl) (cw 4 (elN m s1)) (fun wx hS => St.rangeL hS 7 rfl 0 _ dZl) Tryz.underlying59 rfl (by kernel_rfl) ?_
 try simp only [clL]
 refine a0c rfl rfl rfl Tryz.call179 (fun w hS hR => g0x m gp _ HOK.out (HPM.out.keep hS.fr id) u2 u1 hd Hhd.out) (fun _ => rfl) ?_
 try simp only [clL]
 refine a0c rfl rfl rfl Tryz.call179 (fun w hS hR => g0x m gp _ HOK.out (HPM.out.keep hS.fr id) s2 s1 rr Hrr.out) (fun _ => rfl) ?_
 try simp only [clL]
 refine b0q (List.mem_cons_of_mem _ List.mem_cons_self) fun g13 => ?_
 simp only [upd, reduceIte]
 try simp only [Nat.reduceEqDiff, reduceIte]
 refine b0q List.mem_cons_self fun g14 => ?_
 simp only [upd, reduceIte]
 refine a0v fun xq w15 st15 hR => ?_
 try dsimp only
 clear hR xq
 refine a0y rfl rfl ?_
 refine a0h st15 9 rfl rfl rfl rfl (by simp [a0e]) (by kernel_rfl) (a0g _ _) ?_
 intro w16 st16
 repeat (first | simp only [List.cons_append] at st16 | simp only [List.nil_append] at st16 | simp only [List.set_cons_succ] at st16 | simp only [List.set_cons_zero] at st16)
 clear st15
 refine ⟨by first | exact st16 | exact St.less st16 (by simp), ?_⟩
 try simp only [Act.put]
 refine a0r rfl rfl ?_
 refine a0h st16 10 rfl rfl rfl rfl (by simp [a0e]) (by kernel_rfl) (a0g _ _) ?_
 intro w17 st17
 try simp only [List.set_cons_zero, List.set_cons_succ] at st17
 clear st16
 try simp only [Act.put]
 refine a0j ?_
 refine NoPanic.normal ?_
 rcases Bool.eq_false_or_eq_true (hd % m.M == 0) with hh0 | hh0
 ·have HHZ := Lib.hid hh0
  rcases Bool.eq_false_or_eq_true (rr % m.M == 0) with hr0 | hr0
  ·have HRZ := Lib.hid hr0
   have HDB := Lib.hid (show ∀ wx, Fr Nob w wx → Calls Tryz.prog 154 #[.pointer (some ⟨gc, 0, none⟩), .agg (cw 4 (elN m x1) ++ (cw 4 (elN m y1) ++ cw 4 (elN m z1))).toArray] wx fun e w' => e = .returned (.agg (cw 4 (elN m DX) ++ (cw 4 (elN m DY) ++ cw 4 (elN m DZ))).toArray) ∧ Fr Nob wx w' from HD0.out hh0 hr0)
   clear hh0 hr0 HD0
   go_wp2_with (with_reducible refine wSk 101 ?_)
   refine a0i st17 9 rfl rfl rfl Tryz.underlying59 rfl (by kernel_rfl) ?_
   go_wp2_with fail
   refine (d0I m HOK.out hd true HHZ.out _).mono ?_
   rintro e' w18 ⟨rfl, hf18⟩
   have st18 := st17.keep hf18
   clear st17 hf18
   go_wp2_with (with_reducible refine wSk 103 ?_)
   refine a0i st18 10 rfl rfl rfl Tryz.underlying59 rfl (by kernel_rfl) ?_
   go_wp2_with fail
   refine (d0I m HOK.out rr true HRZ.out _).mono ?_
   rintro e' w19 ⟨rfl, hf19⟩
   have st19 := st18.keep hf19
   clear st18 hf19
   go_wp2_with (with_reducible refine wSk 106 ?_)
   refine a0m st19 0 rfl rfl rfl Tryz.underlying114 rfl rfl (by kernel_rfl) ?_
   go_wp2_with fail
   refine (HDB.out _ st19.fr).mono ?_
   rintro e' w20 ⟨rfl, hf20⟩
   have st20 := st19.keep hf20
   clear st19 hf20
   go_wp2_with (with_reducible refine wSn ?_)
   refine a0b st20 2 rfl rfl rfl rfl rfl (by simp [a0e]) (by kernel_rfl) (a0Q _ _ _) ?_
   intro w21 st21
   clear st20
   have hr := st21.at 2 rfl
   have hfr := st21.fr
   clear st21
   go_wp2_with fail
   exact bodyPost_ret (a0t rfl rfl hr Tryz.underlying114 rfl (by kernel_rfl)) rfl ⟨by rw [HHZ.out, HRZ.out]; rfl, hfr⟩
  ·have HRZ := Lib.hid hr0
   clear hh0 hr0 HD0
   go_wp2_with (with_reducible refine wSk 101 ?_)
   refine a0i st17 9 rfl rfl rfl Tryz.underlying59 rfl (by kernel_rfl) ?_
   go_wp2_with fail
   refine (d0I m HOK.out hd true HHZ.out _).mono ?_
   rintro e' w18 ⟨rfl, hf18⟩
   have st18 := st17.keep hf18
   clear st17 hf18
   go_wp2_with (with_reducible refine wSk 103 ?_)
   refine a0i st18 10 rfl rfl rfl Tryz.underlying59 rfl (by kernel_rfl) ?_
   go_wp2_with fail
   refine (d0I m HOK.out rr false HRZ.out _).mono ?_
   rintro e' w19 ⟨rfl, hf19⟩
   have st19 := st18.keep hf19
   clear st18 hf19
   go_wp2_with fail
   refine (m0G m gc gp bx by_ _ HOK.out (HCV.out.keep st19.fr id) (HPM.out.keep st19.fr id)).mono ?_
   rintro e' w20 ⟨rfl, hf20⟩
   have st20 := st19.keep hf20
   clear st19 hf20
   go_wp2_with (with_reducible refine wSn ?_)
   refine a0b st20 2 rfl rfl rfl rfl rfl (by simp [a0e]) (by kernel_rfl) (a0Q _ _ _) ?_
   intro w21 st21
   clear st20
   have hr := st21.at 2 rfl
   have hfr := st21.fr
   clear st21
   go_wp2_with fail
   exact bodyPost_ret (a0t rfl rfl hr Tryz.underlying114 rfl (by kernel_rfl)) rfl ⟨by rw [HHZ.out, HRZ.out]; rfl, hfr⟩
 ·have HHZ := Lib.hid hh0
  clear hh0 HD0
  go_wp2_with (with_reducible refine wSk 101 ?_)
  refine a0i st17 9 rfl rfl rfl Tryz.underlying59 rfl (by kernel_rfl) ?_
  go_wp2_with fail
  refine (d0I m HOK.out hd false HHZ.out _).mono ?_
  rintro e' w18 ⟨rfl, hf18⟩
  have st18 := st17.keep hf18
  clear st17 hf18
  go_wp2_with fail
  refine wp_region_noPanic ?_
  refine a0f st18 7 [.o 6, .w 0, .w 1, .w 2, .t 3, .t 4, .c 5, .j 6] (.m 7 .nil) (by kernel_rfl) (by kernel_rfl) (fun _ _ _ _ _ h => h) ?_
  clear st18
  refine b0p rfl rfl rfl j0a (cw 4 0) rfl ?_
  try simp only [clL]
  refine a0p (v := ?_) rfl rfl (fun xq wx => ?_) ?_
  rotate_left 1
  ·(go_simp; with_reducible rfl)
  try simp only [clL]
  refine a0p (v := ?_) rfl rfl (fun xq wx => ?_) ?_
  rotate_left 1
  ·(go_simp; with_reducible rfl)
  try simp only [clL]
  refine a0p (v := ?_) rfl rfl (fun xq wx => ?_) ?_
  rotate_left 1
  ·(go_simp; with_reducible rfl)
  try simp only [clL]
  refine b0h (v := ?_) rfl rfl (fun xq wx hS => ?_) ?_
  rotate_left 1
  ·(have hc := (HCV.out.keep (St.fr hS) id).cell (i := 0) rfl; clear hS; go_simp; with_reducible rfl)
  try simp only [clL]
  refine a0d rfl rfl rfl (fun _ => rfl) (cw 4 (elN m hd)) (fun wx hS => St.rangeL hS 9 rfl 0 _ dZl) Tryz.underlying59 rfl (by kernel_rfl) ?_
  try simp only [clL]
  refine a0c rfl rfl rfl Tryz.call147 (fun w hS hR => b0S m gp _ HOK.out (HPM.out.keep hS.fr id) hd hh Hhh.out) (fun _ => rfl) ?_
  try simp only [clL]
  refine b0q List.mem_cons_self fun g15 => ?_
  simp only [upd, reduceIte]
  refine a0v fun xq w19 st19 hR => ?_
  try dsimp only
  clear hR xq
  refine a0r rfl rfl ?_
  refine a0h st19 11 rfl rfl rfl rfl (by simp [a0e]) (by kernel_rfl) (a0g _ _) ?_
  intro w20 st20
  repeat (first | simp only [List.cons_append] at st20 | simp only [List.nil_append] at st20 | simp only [List.set_cons_succ] at st20 | simp only [List.set_cons_zero] at st20)
  clear st19
  try simp only [Act.put]
  refine a0j ?_
  refine NoPanic.normal ?_
  go_wp2_with fail
  refine wp_region_noPanic ?_
  refine a0f st20 8 [.o 7, .w 0, .w 1, .w 2, .t 3, .t 4, .t 5, .c 6, .j 7] (.m 8 .nil) (by kernel_rfl) (by kernel_rfl) (fun _ _ _ _ _ h => h) ?_
  clear st20
  refine b0p rfl rfl rfl j0a (cw 4 0) rfl ?_
  try simp only [clL]
  refine a0p (v := ?_) rfl rfl (fun xq wx => ?_) ?_
  rotate_left 1
  ·(go_simp; with_reducible rfl)
  try simp only [clL]
  refine a0p (v := ?_) rfl rfl (fun xq wx => ?_) ?_
  rotate_left 1
  ·(go_simp; with_reducible rfl)
  try simp only [clL]
  refine a0p (v := ?_) rfl rfl (fun xq wx => ?_) ?_
  rotate_left 1
  ·(go_simp; with_reducible rfl)
  try simp only [clL]
  refine b0h (v := ?_) rfl rfl (fun xq wx hS => ?_) ?_
  rotate_left 1
  ·(have hc := (HCV.out.keep (St.fr hS) id).cell (i := 0) rfl; clear hS; go_simp; with_reducible rfl)
  try simp only [clL]
  refine a0d rfl rfl rfl (fun _ => rfl) (cw 4 (elN m hh)) (fun wx hS => St.rangeL hS 11 rfl 0 _ dZl) Tryz.underlying59 rfl (by kernel_rfl) ?_
  try simp only [clL]
  refine a0d rfl rfl rfl (fun _ => rfl) (cw 4 (elN m hd)) (fun wx hS => St.rangeL hS 9 rfl 0 _ dZl) Tryz.underlying59 rfl (by kernel_rfl) ?_
  try simp only [clL]
  refine a0c rfl rfl rfl Tryz.call148 (fun w hS hR => c0t m gp _ HOK.out (HPM.out.keep hS.fr id) hh hd h3 Hh3.out) (fun _ => rfl) ?_
  try simp only [clL]
  refine b0q List.mem_cons_self fun g16 => ?_
  simp only [upd, reduceIte]
  refine a0v fun xq w21 st21 hR => ?_
  try dsimp only
  clear hR xq
  refine a0r rfl rfl ?_
  refine a0h st21 12 rfl rfl rfl rfl (by simp [a0e]) (by kernel_rfl) (a0g _ _) ?_
  intro w22 st22
  repeat (first | simp only [List.cons_append] at st22 | simp only [List.nil_append] at st22 | simp only [List.set_cons_succ] at st22 | simp only [List.set_cons_zero] at st22)
  clear st21
  try simp only [Act.put]
  refine a0j ?_
  refine NoPanic.normal ?_
  go_wp2_with fail
  refine wp_region_noPanic ?_
  refine a0f st22 8 [.o 7, .w 0, .w 1, .w 2, .t 3, .t 4, .t 5, .c 6, .j 7] (.m 8 .nil) (by kernel_rfl) (by kernel_rfl) (fun _ _ _ _ _ h => h) ?_
  clear st22
  refine b0p rfl rfl rfl j0a (cw 4 0) rfl ?_
  try simp only [clL]
  refine a0p (v := ?_) rfl rfl (fun xq wx => ?_) ?_
  rotate_left 1
  ·(go_simp; with_reducible rfl)
  try simp only [clL]
  refine a0p (v := ?_) rfl rfl (fun xq wx => ?_) ?_
  rotate_left 1
  ·(go_simp; with_reducible rfl)
  try simp only [clL]
  refine a0p (v := ?_) rfl rfl (fun xq wx => ?_) ?_
  rotate_left 1
  ·(go_simp; with_reducible rfl)
  try simp only [clL]
  refine b0h (v := ?_) rfl rfl (fun xq wx hS => ?_) ?_
  rotate_left 1
  ·(have hc := (HCV.out.keep (St.fr hS) id).cell (i := 0) rfl; clear hS; go_simp; with_reducible rfl)
  try simp only [clL]
  refine a0d rfl rfl rfl (fun _ => rfl) (cw 4 (elN m u1)) (fun wx hS => St.rangeL hS 5 rfl 0 _ dZl) Tryz.underlying59 rfl (by kernel_rfl) ?_
  try simp only [clL]
  refine a0d rfl rfl rfl (fun _ => rfl) (cw 4 (elN m hh)) (fun wx hS => St.rangeL hS 11 rfl 0 _ dZl) Tryz.underlying59 rfl (by kernel_rfl) ?_
  try simp only [clL]
  refine a0c rfl rfl rfl Tryz.call148 (fun w hS hR => c0t m gp _ HOK.out (HPM.out.keep hS.fr id) u1 hh v Hv.out) (fun _ => rfl) ?_
  try simp only [clL]
  refine b0q List.mem_cons_self fun g17 => ?_
  simp only [upd, reduceIte]
  refine a0v fun xq w23 st23 hR => ?_
  try dsimp only
  clear hR xq
  refine a0r rfl rfl ?_
  refine a0h st23 13 rfl rfl rfl rfl (by simp [a0e]) (by kernel_rfl) (a0g _ _) ?_
  intro w24 st24
  repeat (first | simp only [List.cons_append] at st24 | simp only [List.nil_append] at st24 | simp only [List.set_cons_succ] at st24 | simp only [List.set_cons_zero] at st24)
  clear st23
  try simp only [Act.put]
  refine a0j ?_
  refine NoPanic.normal ?_
  go_wp2_with fail
  refine wp_region_noPanic ?_
  refine a0f st24 25 [.o 24, .w 0, .w 1, .w 2, .t 3, .w 4, .w 5, .w 6, .t 7, .t 8, .w 10, .w 11, .w 12, .t 13, .t 14, .w 15, .w 16, .w 17, .t 18, .t 19, .t 20, .c 9, .c 21, .c 22, .c 23, .j 24] (.m 25 .nil) (by kernel_rfl) (by kernel_rfl) (fun _ _ _ _ _ h => h) ?_
  clear st24
  refine b0p rfl rfl rfl j0a (cw 4 0) rfl ?_
  try simp only [clL]
  refine a0p (v := ?_) rfl rfl (fun xq wx => ?_) ?_
  rotate_left 1
  ·(go_simp; with_reducible rfl)
  try simp only [clL]
  refine a0p (v := ?_) rfl rfl (fun xq wx => ?_) ?_
  rotate_left 1
  ·(go_simp; with_reducible rfl)
  try simp only [clL]
  refine a0p (v := ?_) rfl rfl (fun xq wx => ?_) ?_
  rotate_left 1
  ·(go_simp; with_reducible rfl)
  try simp only [clL]
  refine b0h (v := ?_) rfl rfl (fun xq wx hS => ?_) ?_
  rotate_left 1
  ·(have hc := (HCV.out.keep (St.fr hS) id).cell (i := 0) rfl; clear hS; go_simp; with_reducible rfl)
  try simp only [clL]
  refine a0p (v := ?_) rfl rfl (fun xq wx => ?_) ?_
  rotate_left 1
  ·(go_simp; with_reducible rfl)
  try simp only [clL]
  refine a0p (v := ?_) rfl rfl (fun xq wx => ?_) ?_
  rotate_left 1
  ·(go_simp; with_reducible rfl)
  try simp only [clL]
  refine a0p (v := ?_) rfl rfl (fun xq wx => ?_) ?_
  rotate_left 1
  ·(go_simp; with_reducible rfl)
  try simp only [clL]
  refine b0h (v := ?_) rfl rfl (fun xq wx hS => ?_) ?_
  rotate_left 1
  ·(have hc := (HCV.out.keep (St.fr hS) id).cell (i := 0) rfl; clear hS; go_simp; with_reducible rfl)
  try simp only [clL]
  refine a0d rfl rfl rfl (fun _ => rfl) (cw 4 (elN m rr)) (fun wx hS => St.rangeL hS 10 rfl 0 _ dZl) Tryz.underlying59 rfl (by kernel_rfl) ?_
  try simp only [clL]
  refine a0p (v := ?_) rfl rfl (fun xq wx => ?_) ?_
  rotate_left 1
  ·(go_simp; with_reducible rfl)
  try simp only [clL]
  refine a0p (v := ?_) rfl rfl (fun xq wx => ?_) ?_
  rotate_left 1
  ·(go_simp; with_reducible rfl)
  try simp only [clL]
  refine a0p (v := ?_) rfl rfl (fun xq wx => ?_) ?_
  rotate_left 1
  ·(go_simp; with_reducible rfl)
  try simp only [clL]
  refine b0h (v := ?_) rfl rfl (fun xq wx hS => ?_) ?_
  rotate_left 1
  ·(have hc := (HCV.out.keep (St.fr hS) id).cell (i := 0) rfl; clear hS; go_simp; with_reducible rfl)
  try simp only [clL]
  refine a0d rfl rfl rfl (fun _ => rfl) (cw 4 (elN m h3)) (fun wx hS => St.rangeL hS 12 rfl 0 _ dZl) Tryz.underlying59 rfl (by kernel_rfl) ?_
  try simp only [clL]
  refine a0p (v := ?_) rfl rfl (fun xq wx => ?_) ?_
  rotate_left 1
  ·(go_simp; with_reducible rfl)
  try simp only [clL]
  refine a0p (v := ?_) rfl rfl (fun xq wx => ?_) ?_
  rotate_left 1
  ·(go_simp; with_reducible rfl)
  try simp only [clL]
  refine a0p (v := ?_) rfl rfl (fun xq wx => ?_) ?_
  rotate_left 1
  ·(go_simp; with_reducible rfl)
  try simp only [clL]
  refine b0h (v := ?_) rfl rfl (fun xq wx hS => ?_) ?_
  rotate_left 1
  ·(have hc := (HCV.out.keep (St.fr hS) id).cell (i := 0) rfl; clear hS; go_simp; with_reducible rfl)
  try simp only [clL]
  refine a0d rfl rfl rfl (fun _ => rfl) (cw 4 (elN m v)) (fun wx hS => St.rangeL hS 13 rfl 0 _ dZl) Tryz.underlying59 rfl (by kernel_rfl) ?_
  try simp only [clL]
  refine a0d rfl rfl rfl (fun _ => rfl) (cw 4 (elN m v)) (fun wx hS => St.rangeL hS 13 rfl 0 _ dZl) Tryz.underlying59 rfl (by kernel_rfl) ?_
  try simp only [clL]
  refine a0c rfl rfl rfl Tryz.call147 (fun w hS hR => b0S m gp _ HOK.out (HPM.out.keep hS.fr id) rr r2 Hr2.out) (fun _ => rfl) ?_
  try simp only [clL]
  refine a0c rfl rfl rfl Tryz.call166 (fun w hS hR => d0U m gp _ HOK.out (HPM.out.keep hS.fr id) v v v2 Hv2.out) (fun _ => rfl) ?_
  try simp only [clL]
  refine a0c rfl rfl rfl Tryz.call166 (fun w hS hR => d0U m gp _ HOK.out (HPM.out.keep hS.fr id) h3 v2 t1 Ht1.out) (fun _ => rfl) ?_
  try simp only [clL]
  refine a0c rfl rfl rfl Tryz.call179 (fun w hS hR => g0x m gp _ HOK.out (HPM.out.keep hS.fr id) r2 t1 X HX.out) (fun _ => rfl) ?_
  try simp only [clL]
  refine b0q List.mem_cons_self fun g18 => ?_
  simp only [upd, reduceIte]
  refine a0v fun xq w25 st25 hR => ?_
  try dsimp only
  clear hR xq
  refine a0r rfl rfl ?_
  refine a0h st25 14 rfl rfl rfl rfl (by simp [a0e]) (by kernel_rfl) (a0g _ _) ?_
  intro w26 st26
  repeat (first | simp only [List.cons_append] at st26 | simp only [List.nil_append] at st26 | simp only [List.set_cons_succ] at st26 | simp only [List.set_cons_zero] at st26)
  clear st25
  try simp only [Act.put]
  refine a0j ?_
  refine NoPanic.normal ?_
  go_wp2_with fail
  refine wp_region_noPanic ?_
  refine a0f st26 42 [.t 0, .w 1, .w 2, .w 3, .t 4, .w 5, .w 6, .w 7, .t 8, .t 9, .w 10, .w 11, .w 12, .t 13, .t 14, .t 15, .w 18, .w 19, .w 20, .t 21, .t 22, .t 23, .w 26, .w 27, .w 28, .t 29, .t 30, .w 31, .w 32, .w 33, .t 34, .w 35, .t 36, .w 37, .t 38, .c 16, .c 17, .c 24, .c 25, .c 39, .c 40, .w 41] (.m 42 .nil) (by kernel_rfl) (by kernel_rfl) (fun _ _ _ _ _ h => h) ?_
  clear st26
  refine a0d rfl rfl rfl (fun _ => rfl) (cw 4 (elN m X)) (fun wx hS => St.rangeL hS 14 rfl 0 _ dZl) Tryz.underlying59 rfl (by kernel_rfl) ?_
  try simp only [clL]
  refine a0p (v := ?_) rfl rfl (fun xq wx => ?_) ?_
  rotate_left 1
  ·(go_simp; with_reducible rfl)
  try simp only [clL]
  refine a0p (v := ?_) rfl rfl (fun xq wx => ?_) ?_
  rotate_left 1
  ·(go_simp; with_reducible rfl)
  try simp only [clL]
  refine a0p (v := ?_) rfl rfl (fun xq wx => ?_) ?_
  rotate_left 1
  ·(go_simp; with_reducible rfl)
  try simp only [clL]
  refine b0h (v := ?_) rfl rfl (fun xq wx hS => ?_) ?_
  rotate_left 1
  ·(have hc := (HCV.out.keep (St.fr hS) id).cell (i := 0) rfl; clear hS; go_simp; with_reducible rfl)
  try simp only [clL]
  refine a0p (v := ?_) rfl rfl (fun xq wx => ?_) ?_
  rotate_left 1
  ·(go_simp; with_reducible rfl)
  try simp only [clL]
  refine a0p (v := ?_) rfl rfl (fun xq wx => ?_) ?_
  rotate_left 1
  ·(go_simp; with_reducible rfl)
  try simp only [clL]
  refine a0p (v := ?_) rfl rfl (fun xq wx => ?_) ?_
  rotate_left 1
  ·(go_simp; with_reducible rfl)
  try simp only [clL]
  refine b0h (v := ?_) rfl rfl (fun xq wx hS => ?_) ?_
  rotate_left 1
  ·(have hc := (HCV.out.keep (St.fr hS) id).cell (i := 0) rfl; clear hS; go_simp; with_reducible rfl)
  try simp only [clL]
  refine a0d rfl rfl rfl (fun _ => rfl) (cw 4 (elN m rr)) (fun wx hS => St.rangeL hS 10 rfl 0 _ dZl) Tryz.underlying59 rfl (by kernel_rfl) ?_
  try simp only [clL]
  refine a0p (v := ?_) rfl rfl (fun xq wx => ?_) ?_
  rotate_left 1
  ·(go_simp; with_reducible rfl)
  try simp only [clL]
  refine a0p (v := ?_) rfl rfl (fun xq wx => ?_) ?_
  rotate_left 1
  ·(go_simp; with_reducible rfl)
  try simp only [clL]
  refine a0p (v := ?_) rfl rfl (fun xq wx => ?_) ?_
  rotate_left 1
  ·(go_simp; with_reducible rfl)
  try simp only [clL]
  refine b0h (v := ?_) rfl rfl (fun xq wx hS => ?_) ?_
  rotate_left 1
  ·(have hc := (HCV.out.keep (St.fr hS) id).cell (i := 0) rfl; clear hS; go_simp; with_reducible rfl)
  try simp only [clL]
  refine a0d rfl rfl rfl (fun _ => rfl) (cw 4 (elN m v)) (fun wx hS => St.rangeL hS 13 rfl 0 _ dZl) Tryz.underlying59 rfl (by kernel_rfl) ?_
  try simp only [clL]
  refine a0d rfl rfl rfl (fun _ => rfl) (cw 4 (elN m X)) (fun wx hS => St.rangeL hS 14 rfl 0 _ dZl) Tryz.underlying59 rfl (by kernel_rfl) ?_
  try simp only [clL]
  refine a0p (v := ?_) rfl rfl (fun xq wx => ?_) ?_
  rotate_left 1
  ·(go_simp; with_reducible rfl)
  try simp only [clL]
  refine a0p (v := ?_) rfl rfl (fun xq wx => ?_) ?_
  rotate_left 1
  ·(go_simp; with_reducible rfl)
  try simp only [clL]
  refine a0p (v := ?_) rfl rfl (fun xq wx => ?_) ?_
  rotate_left 1
  ·(go_simp; with_reducible rfl)
  try simp only [clL]
  refine b0h (v := ?_) rfl rfl (fun xq wx hS => ?_) ?_
  rotate_left 1
  ·(have hc := (HCV.out.keep (St.fr hS) id).cell (i := 0) rfl; clear hS; go_simp; with_reducible rfl)
  try simp only [clL]
  refine a0d rfl rfl rfl (fun _ => rfl) (cw 4 (elN m s1)) (fun wx hS => St.rangeL hS 7 rfl 0 _ dZl) Tryz.underlying59 rfl (by kernel_rfl) ?_
  try simp only [clL]
  refine a0d rfl rfl rfl (fun _ => rfl) (cw 4 (elN m h3)) (fun wx hS => St.rangeL hS 12 rfl 0 _ dZl) Tryz.underlying59 rfl (by kernel_rfl) ?_
  try simp only [clL]
  refine a0p (v := ?_) rfl rfl (fun xq wx => ?_) ?_
  rotate_left 1
  ·(go_simp; with_reducible rfl)
  try simp only [clL]
  refine a0p (v := ?_) rfl rfl (fun xq wx => ?_) ?_
  rotate_left 1
  ·(go_simp; with_reducible rfl)
  try simp only [clL]
  refine a0p (v := ?_) rfl rfl (fun xq wx => ?_) ?_
  rotate_left 1
  ·(go_simp; with_reducible rfl)
  try simp only [clL]
  refine b0h (v := ?_) rfl rfl (fun xq wx hS => ?_) ?_
  rotate_left 1
  ·(have hc := (HCV.out.keep (St.fr hS) id).cell (i := 0) rfl; clear hS; go_simp; with_reducible rfl)
  try simp only [clL]
  refine a0d rfl rfl rfl (fun _ => rfl) (cw 4 (elN m hd)) (fun wx hS => St.rangeL hS 9 rfl 0 _ dZl) Tryz.underlying59 rfl (by kernel_rfl) ?_
  try simp only [clL]
  refine a0p (v := ?_) rfl rfl (fun xq wx => ?_) ?_
  rotate_left 1
  ·(go_simp; with_reducible rfl)
  try simp only [clL]
  refine a0p (v := ?_) rfl rfl (fun xq wx => ?_) ?_
  rotate_left 1
  ·(go_simp; with_reducible rfl)
  try simp only [clL]
  refine a0p (v := ?_) rfl rfl (fun xq wx => ?_) ?_
  rotate_left 1
  ·(go_simp; with_reducible rfl)
  try simp only [clL]
  refine b0h (v := ?_) rfl rfl (fun xq wx hS => ?_) ?_
  rotate_left 1
  ·(have hc := (HCV.out.keep (St.fr hS) id).cell (i := 0) rfl; clear hS; go_simp; with_reducible rfl)
  try simp only [clL]
  refine a0p (v := ?_) rfl rfl (fun xq wx => ?_) ?_
  rotate_left 1
  ·(go_simp; with_reducible rfl)
  try simp only [clL]
  refine a0d rfl rfl rfl (fun _ => rfl) (cw 4 (elN m z1)) (fun wx hS => St.rangeL hS 0 rfl 8 _ (f0c _ _ _)) Tryz.underlying59 rfl (by kernel_rfl) ?_
  try simp only [clL]
  refine a0p (v := ?_) rfl rfl (fun xq wx => ?_) ?_
  rotate_left 1
  ·(go_simp; with_reducible rfl)
  try simp only [clL]
  refine a0d rfl rfl rfl (fun _ => rfl) (cw 4 (elN m z2)) (fun wx hS => St.rangeL hS 1 rfl 8 _ (f0c _ _ _)) Tryz.underlying59 rfl (by kernel_rfl) ?_
  try simp only [clL]
  refine a0c rfl rfl rfl Tryz.call179 (fun w hS hR => g0x m gp _ HOK.out (HPM.out.keep hS.fr id) v X t2 Ht2.out) (fun _ => rfl) ?_
  try simp only [clL]
  refine a0c rfl rfl rfl Tryz.call148 (fun w hS hR => c0t m gp _ HOK.out (HPM.out.keep hS.fr id) rr t2 t3 Ht3.out) (fun _ => rfl) ?_
  try simp only [clL]
  refine a0c rfl rfl rfl Tryz.call148 (fun w hS hR => c0t m gp _ HOK.out (HPM.out.keep hS.fr id) s1 h3 t4 Ht4.out) (fun _ => rfl) ?_
  try simp only [clL]
  refine a0c rfl rfl rfl Tryz.call179 (fun w hS hR => g0x m gp _ HOK.out (HPM.out.keep hS.fr id) t3 t4 Y HY.out) (fun _ => rfl) ?_
  try simp only [clL]
  refine a0c rfl rfl rfl Tryz.call148 (fun w hS hR => c0t m gp _ HOK.out (HPM.out.keep hS.fr id) z1 z2 zz Hzz.out) (fun _ => rfl) ?_
  try simp only [clL]
  refine a0c rfl rfl rfl Tryz.call148 (fun w hS hR => c0t m gp _ HOK.out (HPM.out.keep hS.fr id) hd zz Z HZ.out) (fun _ => rfl) ?_
  try simp only [clL]
  refine a0p rfl rfl (fun _ => b0f rfl _ (f0o _ _ _)) ?_
  try simp only [clL]
  refine a0v fun xq w27 st27 hR => ?_
  try dsimp only
  clear hR xq
  refine a0r rfl rfl ?_
  refine a0h st27 2 rfl rfl rfl rfl (by simp [a0e]) (by kernel_rfl) (a0Q _ _ _) ?_
  intro w28 st28
  try simp only [List.set_cons_zero, List.set_cons_succ] at st28
  clear st27
  try simp only [Act.put]
  refine a0j ?_
  refine NoPanic.normal ?_
  have hr := st28.at 2 rfl
  have hfr := st28.fr
  clear st28
  go_wp2_with fail
  exact bodyPost_ret (a0t rfl rfl hr Tryz.underlying114 rfl (by kernel_rfl)) rfl ⟨by rw [HHZ.out]; rfl, hfr⟩
end Go.Proofs.YtmebmhjppmfbbaaGreat


set_option maxHeartbeats 16000000
set_option maxRecDepth 1000000
namespace Go.Proofs.YtmebmhjppmfbbaaGreat
open Go.RowKit Go.Mv Mvp Mvq
theorem v0T : kc 0 = 0 := by decide
theorem z0j (x1 y1 z1 x2 y2 z2 : Nat) (ho1 : onC (jN x1 y1 z1)) (ho2 : onC (jN x2 y2 z2)) :
  ∃ X Y Z, jN X Y Z = a0U (jN x1 y1 z1) (jN x2 y2 z2) ∧ ∀ gc gp bx by_ wx, Has wx gc (f0C mP gp bx by_) 122 → Has wx gp (mdL mP) 185 → Calls Tryz.prog 155 #[.pointer (some ⟨gc, 0, none⟩), ptV mP x1 y1 z1, ptV mP x2 y2 z2] wx fun e w' => e = .returned (ptV mP X Y Z) ∧ Fr Nob wx w' := by
 cases hb1 : (z1 % mP.M == 0)
 case true =>
  have hz : kc z1 = 0 := by simpa using r0r _ d0x z1 _ hb1
  refine ⟨x2, y2, z2, ?_, fun gc gp bx by_ wx hcv hpm => q0T mP gc gp bx by_ wx c0w hcv hpm x1 y1 z1 x2 y2 z2 hb1⟩
  unfold jN
  rw [z0d hz]; rfl
 case false =>
  have hz1 : kc z1 ≠ 0 := by simpa using r0r _ d0x z1 _ hb1
  cases hb2 : (z2 % mP.M == 0)
  case true =>
   have hz : kc z2 = 0 := by simpa using r0r _ d0x z2 _ hb2
   refine ⟨x1, y1, z1, ?_, fun gc gp bx by_ wx hcv hpm => q0U mP gc gp bx by_ wx c0w hcv hpm x1 y1 z1 x2 y2 z2 hb1 hb2⟩
   unfold jN
   rw [z0d hz, b0G]
  case false =>
   have hz2 : kc z2 ≠ 0 := by simpa using r0r _ d0x z2 _ hb2
   obtain ⟨pp, epp⟩ : ∃ q, z1 * z1 = q := ⟨_, rfl⟩
   obtain ⟨qq, eqq⟩ : ∃ q, z2 * z2 = q := ⟨_, rfl⟩
   obtain ⟨u1, eu1⟩ : ∃ q, x1 * qq = q := ⟨_, rfl⟩
   obtain ⟨u2, eu2⟩ : ∃ q, x2 * pp = q := ⟨_, rfl⟩
   obtain ⟨q3, eq3⟩ : ∃ q, qq * z2 = q := ⟨_, rfl⟩
   obtain ⟨s1, es1⟩ : ∃ q, y1 * q3 = q := ⟨_, rfl⟩
   obtain ⟨p3, ep3⟩ : ∃ q, pp * z1 = q := ⟨_, rfl⟩
   obtain ⟨s2, es2⟩ : ∃ q, y2 * p3 = q := ⟨_, rfl⟩
   obtain ⟨hd, ehd⟩ : ∃ q, u2 + (mP.M - u1 % mP.M) = q := ⟨_, rfl⟩
   obtain ⟨rr, err⟩ : ∃ q, s2 + (mP.M - s1 % mP.M) = q := ⟨_, rfl⟩
   have ku1 : kc u1 = kc x1 * (kc z2 * kc z2) := by rw [← eu1, ← eqq, a0F, a0F]
   have ku2 : kc u2 = kc x2 * (kc z1 * kc z1) := by rw [← eu2, ← epp, a0F, a0F]
   have ks1 : kc s1 = kc y1 * (kc z2 * kc z2 * kc z2) := by rw [← es1, ← eq3, ← eqq, a0F, a0F, a0F]
   have ks2 : kc s2 = kc y2 * (kc z1 * kc z1 * kc z1) := by rw [← es2, ← ep3, ← epp, a0F, a0F, a0F]
   have khd : kc hd = kc u2 - kc u1 := by rw [← ehd, k0U _ d0x]
   have krr : kc rr = kc s2 - kc s1 := by rw [← err, k0U _ d0x]
   obtain ⟨DX, DY, DZ, hX, hcall⟩ := m0F x1 y1 z1 ho1
   have hcal := fun gc gp bx by_ wx (hcv : Has wx gc (f0C mP gp bx by_) 122) (hpm : Has wx gp (mdL mP) 185) => s0X mP gc gp bx by_ wx c0w hcv hpm x1 y1 z1 x2 y2 z2 hb1 hb2 pp qq u1 u2 q3 s1 p3 s2 hd rr _ _ _ _ _ _ _ _ _ _ _ _ _ DX DY DZ epp eqq eu1 eu2 eq3 es1 ep3 es2 ehd err rfl rfl rfl rfl rfl rfl rfl rfl rfl rfl rfl rfl rfl (fun _ _ wy hf2 => hcall gc gp bx by_ wy (hcv.keep hf2 id) (hpm.keep hf2 id))
   cases hh : (hd % mP.M == 0)
   case false =>
    have hn : kc hd ≠ 0 := by simpa using r0r _ d0x hd _ hh
    rw [hh] at hcal
    refine ⟨_, _, _, ?_, fun gc gp bx by_ wx hcv hpm => hcal gc gp bx by_ wx hcv hpm⟩
    have h := z0f ho1 ho2 hz1 hz2 (kc u1) (kc u2) (kc s1) (kc s2) (kc hd) (kc rr) _ _ _ _ ku1 ku2 ks1 ks2 khd krr hn rfl rfl rfl rfl
    unfold jN at *
    rw [← h]
    simp only [k0U _ d0x, g0Y, a0F]
   case true =>
    have h0 : kc hd = 0 := by simpa using r0r _ d0x hd _ hh
    have hs := z0g ho1 ho2 hz1 hz2 (by rw [← ku1, ← ku2, ← khd]; exact h0)
    rw [← ks1, ← ks2, ← krr] at hs
    cases hr : (rr % mP.M == 0)
    case true =>
     have hr0 : kc rr = 0 := by simpa using r0r _ d0x rr _ hr
     rw [hh, hr] at hcal
     refine ⟨DX, DY, DZ, ?_, fun gc gp bx by_ wx hcv hpm => hcal gc gp bx by_ wx hcv hpm⟩
     have e := hs.1 hr0
     unfold jN at *
     rw [hX, e]
    case false =>
     have hr0 : kc rr ≠ 0 := by simpa using r0r _ d0x rr _ hr
     rw [hh, hr] at hcal
     refine ⟨1, 1, 0, ?_, fun gc gp bx by_ wx hcv hpm => hcal gc gp bx by_ wx hcv hpm⟩
     have e := hs.2 hr0
     unfold jN at *
     rw [e, z0d v0T]
end Go.Proofs.YtmebmhjppmfbbaaGreat


set_option maxHeartbeats 16000000
set_option maxRecDepth 1000000
namespace Mvq
open Mvp
structure FP (M : Nat) : Prop where
 prime : IsP M
 odd : M % 2 = 1
 big : 3 < M
theorem FP.inv {M a : Nat} (h : FP M) (ha : a < M) (h0 : a ≠ 0) : a * (a ^ (M - 2) % M) % M = 1 := by
 have hd : ¬ M ∣ a := fun hx => by have := Nat.le_of_dvd ap13 hx; omega
 have hb := h.big
 rw [Nat.mul_mod_mod, Nat.mul_comm, ← Nat.pow_succ, show (M - 2).succ = M - 1 by omega]
 exact p0n h.prime hd
theorem FP.inv0 {M : Nat} (h : FP M) : 0 ^ (M - 2) % M = 0 := by
 have hb := h.big
 rw [Nat.zero_pow ap13, Nat.zero_mod]
theorem B0x {M a w : Nat} (h : IsP M) (ha : a < M) (hw : w < M) (hs : w * w % M = a * a % M) : w = a ∨ w = (M - a) % M := by
 have key : ∀ a w, a < M → w < M → a ≤ w → w * w % M = a * a % M → w = a ∨ w = (M - a) % M := by
  intro a w ha hw hle hs
  have hd : M ∣ (w - a) * (w + a) := by
   have h1 : M ∣ w * w - a * a := Nat.dvd_of_mod_eq_zero (Nat.sub_mod_eq_zero_of_mod_eq hs)
   rwa [Nat.mul_self_sub_mul_self_eq, Nat.mul_comm] at h1
  rcases h.euclid hd with h1 | h1
  ·left
   rcases Nat.eq_zero_or_pos (w - a) with h2 | h2
   ·omega
   ·have := Nat.le_of_dvd h2 h1; omega
  ·obtain ⟨c, hc⟩ := h1
   have h1 := h.1
   have hc2 : c = 0 ∨ c = 1 := by
    rcases Nat.lt_or_ge c 2 with h2 | h2
    ·omega
    ·have : M * 2 ≤ M * c := Nat.mul_le_mul_left _ h2
     omega
   rcases hc2 with rfl | rfl
   ·left; omega
   ·rcases Nat.eq_zero_or_pos a with h3 | h3
    ·subst h3; omega
    ·right; rw [Nat.mod_eq_of_lt ap13]; omega
 rcases Nat.le_total a w with h1 | h1
 ·exact key a w ha hw h1 hs
 ·rcases key w a hw ha h1 hs.symm with h2 | h2
  ·exact Or.inl h2.symm
  ·rcases Nat.eq_zero_or_pos w with h3 | h3
   ·subst h3; rw [Nat.sub_zero, Nat.mod_self] at h2; exact Or.inl h2.symm
   ·rw [Nat.mod_eq_of_lt ap13] at h2
    right
    rw [Nat.mod_eq_of_lt ap13]; omega
theorem s0Y {M a : Nat} (h : FP M) (h4 : M % 4 = 3) (_ : a < M) : b0Q M (a * a % M) = true := by
 unfold b0Q rtN
 rw [beq_iff_eq]
 have hb := h.big
 generalize hk : M / 4 + 1 = k
 have h2 : 4 * k = M + 1 := by omega
 rw [Nat.mul_mod ((a * a % M) ^ k), ← Nat.pow_mod, ← Nat.mul_mod, ← Nat.pow_two a, ← Nat.pow_mul, ← Nat.pow_add, show 2 * k + 2 * k = M + 1 by omega, Nat.mod_mod]
 rw [Nat.pow_succ, Nat.mul_mod, n0M h.prime, ← Nat.mul_mod, Nat.pow_two]
theorem m0H {M x : Nat} (h : FP M) : rtV M x % M % 2 = 0 := by
 unfold rtV
 have hb := h.big
 have ho := h.odd
 have hl : rtN M x % M < M := Nat.mod_lt _ ap13
 generalize hr : rtN M x % M = r at *
 split
 ·rename_i h1
  rw [Nat.mod_eq_of_lt (show M - r < M by omega)]; omega
 ·rw [hr]; omega
theorem n0T {M x : Nat} (h : FP M) (hx : x < M) (hr : b0Q M x = true) : (rtV M x % M) * (rtV M x % M) % M = x := by
 unfold b0Q at hr
 rw [beq_iff_eq, Nat.mul_mod, Nat.mod_eq_of_lt hx] at hr
 unfold rtV
 have hb := h.big
 have hl : rtN M x % M < M := Nat.mod_lt _ ap13
 generalize hq : rtN M x % M = r at *
 split
 ·rename_i h1
  rw [Nat.mod_eq_of_lt (show M - r < M by omega)]
  have e : (M - r) * (M - r) + M * (2 * r) = r * r + M * M := by
   obtain ⟨d, rfl⟩ : ∃ d, M = r + d := ⟨M - r, by omega⟩
   rw [Nat.add_sub_cancel_left]
   clear hb hl hq hr hx h
   grind
  have e2 : ((M - r) * (M - r) + M * (2 * r)) % M = (r * r + M * M) % M := by rw [e]
  rw [Nat.add_mul_mod_self_left, Nat.add_mul_mod_self_left, hr] at e2
  exact e2
 ·rw [hq, hr]
theorem C0O : FP pP := ⟨by rw [show pP = 115792089237316195423570985008687907853269984665640564039457584007908834671663 by decide]; exact x0C, by decide, by decide⟩
theorem D0u : FP pQ := ⟨by rw [show pQ = 115792089237316195423570985008687907852837564279074904382605163141518161494337 by decide]; exact B0k, by decide, by decide⟩
end Mvq


set_option maxHeartbeats 16000000
set_option maxRecDepth 1000000
namespace Mvq
open Mvp
def b0C : Pt → List UInt8
 | .O => List.replicate 33 0
 | .A x y => UInt8.ofNat (2 + y.val % 2) :: b0c x.val
theorem c0j (p : Pt) : (b0C p).length = 33 := by
 cases p
 ·simp [b0C]
 ·simp [b0C, b0P]
def tlN (l : List UInt8) : Nat := beN (l.drop 1)
def e0I (n : Nat) : Nat := n * n * n + 7
def b0D (l : List UInt8) : Bool :=
 decide (l.length = 33) && (if l.getD 0 0 = 0 then tlN l == 0 else decide (l.getD 0 0 = 2 ∨ l.getD 0 0 = 3) && (decide (tlN l < fP) && b0Q fP (e0I (tlN l))))
def c0r (l : List UInt8) : Pt :=
 if l.getD 0 0 = 0 then .O else .A (kc (tlN l)) (if l.getD 0 0 = 3 then - kc (rtV fP (e0I (tlN l))) else kc (rtV fP (e0I (tlN l))))
theorem v0U {a x : Nat} (h : (a * a % fP == x % fP) = true) : kc a * kc a = kc x := by
 rw [B0w] at h
 rw [← a0F]; simpa using h
theorem x0H {x : Nat} (h : b0Q fP x = true) : kc (rtV fP x) * kc (rtV fP x) = kc x := by
 unfold b0Q at h
 have h1 := v0U h
 unfold rtV
 split
 ·rw [n0S, ← h1]; grind -lia -linarith
 ·exact h1
theorem n0U (n : Nat) : kc (e0I n) = kc n * kc n * kc n + 7 := by
 unfold e0I
 rw [g0Y, a0F, a0F, show kc 7 = 7 by decide]
theorem B0y {n : Nat} (h : b0Q fP (e0I n) = true) : onC (.A (kc n) (kc (rtV fP (e0I n)))) := by
 show kc (rtV fP (e0I n)) * kc (rtV fP (e0I n)) = kc n * kc n * kc n + 7
 rw [x0H h, n0U]
theorem m0I {l : List UInt8} (h : b0D l = true) : onC (c0r l) := by
 unfold b0D at h
 unfold c0r
 by_cases h0 : l.getD 0 0 = 0
 ·rw [if_pos h0]; trivial
 ·rw [if_neg h0]
  simp only [Bool.and_eq_true, decide_eq_true_eq, if_neg h0] at h
  obtain ⟨-, -, -, h4⟩ := h
  have := B0y h4
  by_cases h3 : l.getD 0 0 = 3
  ·rw [if_pos h3]; exact b0T this
  ·rw [if_neg h3]; exact this
theorem f0p (n : Nat) : (kc n).val = n % fP := by simp [kc, Fin.ofNat]
theorem v0V (n : Nat) (h : n < fP) : beN (b0c n) = n := by
 have h2 : fP < 256 ^ 32 := by decide
 exact o0Y n (Nat.lt_trans h h2)
theorem i0K (y : K) (h : y ≠ 0) : (-y).val % 2 = (1 + y.val) % 2 := by
 have h0 : y.val ≠ 0 := fun e => h (Fin.ext e)
 have h1 : (-y).val = fP - y.val := by
  rw [Fin.val_neg]
  have hne : ¬ y = 0 := h
  simp [hne]
 have h2 : fP % 2 = 1 := by decide
 have h3 := y.isLt
 omega
theorem s0Z {a b : K} (h : a * a = b * b) : a = b ∨ a = -b := by
 have : (a - b) * (a + b) = 0 := by grind -lia -linarith
 rcases a0z this with e | e
 ·left; grind -lia -linarith
 ·right; grind -lia -linarith
theorem n0V {p : Pt} (h : onC p) : b0D (b0C p) = true ∧ c0r (b0C p) = p := by
 cases p with
 | O =>
  have : (b0C .O) = List.replicate 33 0 := rfl
  rw [this]
  constructor
  ·decide
  ·unfold c0r; rw [if_pos ap12]
 | A x y =>
  have hc : y * y = x * x * x + 7 := h
  have hy := u0A hc
  have e0 : (b0C (.A x y)).getD 0 0 = UInt8.ofNat (2 + y.val % 2) := rfl
  have e1 : tlN (b0C (.A x y)) = x.val := by
   show beN (b0c x.val) = x.val
   exact v0V _ x.isLt
  have hl := c0j (.A x y)
  have hk : kc (e0I x.val) = y * y := by rw [n0U, j0L, hc]
  have hr : b0Q fP (e0I x.val) = true := by
   have hh := s0Y (M := fP) (a := y.val) (by have := C0O; rwa [s0T] at this) ap12 y.isLt
   have e : kc (e0I x.val) = kc (y.val * y.val % fP) := by rw [e0o, a0F, j0L, hk]
   have e2 : e0I x.val % fP = y.val * y.val % fP % fP := by
    have := B0w (e0I x.val) (y.val * y.val % fP)
    rw [e] at this
    simpa using this
   unfold b0Q rtN at *
   rw [Nat.mul_mod, Nat.pow_mod, e2, ← Nat.pow_mod, ← Nat.mul_mod]
   simpa using hh
  have hev : (kc (rtV fP (e0I x.val))).val % 2 = 0 := by
   rw [f0p]
   exact m0H (by have := C0O; rwa [s0T] at this)
  have hv := x0H hr
  rw [hk] at hv
  generalize hz : kc (rtV fP (e0I x.val)) = z at *
  unfold b0D c0r
  rw [hl, e1, e0, hr, hz]
  have hx := x.isLt
  have hcase : y.val % 2 = 0 ∨ y.val % 2 = 1 := by omega
  have hzy : z = (if y.val % 2 = 0 then y else -y) := by
   rcases s0Z hv with e | e
   ·subst e; rw [if_pos hev]
   ·have hp := i0K y hy
    rw [← e] at hp
    rw [if_neg ap13]; exact e
  have hlt : decide (x.val < fP) = true := decide_eq_true hx
  rcases hcase with e | e
  ·have hb : UInt8.ofNat (2 + y.val % 2) = 2 := by rw [e]; rfl
   rw [if_pos e] at hzy
   rw [hb, hzy, hlt]
   refine ⟨?_, ?_⟩
   ·rw [if_neg ap12]; decide
   ·rw [if_neg ap12, if_neg ap12, j0L]
  ·have hb : UInt8.ofNat (2 + y.val % 2) = 3 := by rw [e]; rfl
   rw [if_neg ap13] at hzy
   rw [hb, hzy, hlt]
   refine ⟨?_, ?_⟩
   ·rw [if_neg ap12]; decide
   ·have hn : - -y = y := by grind -lia -linarith
    rw [if_neg ap12, if_pos rfl, j0L, hn]
end Mvq


set_option maxHeartbeats 16000000
set_option maxRecDepth 1000000
namespace Go.Proofs.YtmebmhjppmfbbaaGreat
open Go.RowKit Go.Mv Mvp Mvq
def gXn : Nat := 0x79BE667EF9DCBBAC55A06295CE870B07029BFCDB2DCE28D959F2815B16F81798
def gYn : Nat := 0x483ADA7726A3C4655DA4FBFC0E1108A8FD17B448A68554199C47D08FFB10D4B8
structure PT where
 x : Nat
 y : Nat
 z : Nat
 on : onC (jN x y z)
def PT.pt (s : PT) : Pt := jN s.x s.y s.z
def PT.L (s : PT) : List Value := ptL mP s.x s.y s.z
theorem PT.len (s : PT) : s.L.length = 12 := e0D _ _ _ _
theorem PT.one (s : PT) : ∀ v ∈ s.L, v.oneCell' = true := a0Q _ _ _
theorem PT.onP (s : PT) : onC s.pt := s.on
def Cv (w : World) (gc : Nat) : Prop := ∃ gp, Has w gc (f0C mP gp gXn gYn) 122 ∧ Has w gp (mdL mP) 185
theorem Cv.keep {w w' : World} {gc : Nat} (h : Cv w gc) (hf : Fr Nob w w') : Cv w' gc := by
 obtain ⟨gp, h1, h2⟩ := h
 exact ⟨gp, h1.keep hf id, h2.keep hf id⟩
theorem n0W (s : PT) : ∃ t : PT, t.pt = a0U s.pt s.pt ∧ ∀ gc wx, Cv wx gc → Calls Tryz.prog 154 #[.pointer (some ⟨gc, 0, none⟩), (.agg s.L.toArray)] wx fun e w' => e = .returned (.agg t.L.toArray) ∧ Fr Nob wx w' := by
 obtain ⟨X, Y, Z, h1, h2⟩ := m0F s.x s.y s.z s.on
 refine ⟨⟨X, Y, Z, by rw [h1]; exact c0e s.on s.on⟩, h1, ?_⟩
 rintro gc wx ⟨gp, a, b⟩
 exact h2 gc gp gXn gYn wx a b
theorem n0X (s t : PT) : ∃ r : PT, r.pt = a0U s.pt t.pt ∧ ∀ gc wx, Cv wx gc → Calls Tryz.prog 155 #[.pointer (some ⟨gc, 0, none⟩), (.agg s.L.toArray), (.agg t.L.toArray)] wx fun e w' => e = .returned (.agg r.L.toArray) ∧ Fr Nob wx w' := by
 obtain ⟨X, Y, Z, h1, h2⟩ := z0j s.x s.y s.z t.x t.y t.z s.on t.on
 refine ⟨⟨X, Y, Z, by rw [h1]; exact c0e s.on t.on⟩, h1, ?_⟩
 rintro gc wx ⟨gp, a, b⟩
 exact h2 gc gp gXn gYn wx a b
noncomputable def k0V (s : PT) : PT := Classical.choose (n0W s)
noncomputable def l0r (s t : PT) : PT := Classical.choose (n0X s t)
theorem k0W (s : PT) : (k0V s).pt = a0U s.pt s.pt := (Classical.choose_spec (n0W s)).1
theorem t0a (s t : PT) : (l0r s t).pt = a0U s.pt t.pt := (Classical.choose_spec (n0X s t)).1
theorem v0W (s : PT) (gc : Nat) (w : World) (h : Cv w gc) : Calls Tryz.prog 154 #[.pointer (some ⟨gc, 0, none⟩), (.agg s.L.toArray)] w fun e w' => e = .returned (.agg (k0V s).L.toArray) ∧ Fr Nob w w' :=
 (Classical.choose_spec (n0W s)).2 gc w h
theorem x0I (s t : PT) (gc : Nat) (w : World) (h : Cv w gc) : Calls Tryz.prog 155 #[.pointer (some ⟨gc, 0, none⟩), (.agg s.L.toArray), (.agg t.L.toArray)] w fun e w' => e = .returned (.agg (l0r s t).L.toArray) ∧ Fr Nob w w' :=
 (Classical.choose_spec (n0X s t)).2 gc w h
theorem t0b : kc 1 = 1 := by decide
def noT : PT := ⟨1, 1, 0, by unfold jN; rw [z0d ap12]; trivial⟩
theorem t0c : noT.pt = .O := by show jN 1 1 0 = .O; unfold jN; rw [z0d ap12]
theorem m0J (gc : Nat) (w : World) (h : Cv w gc) : Calls Tryz.prog 153 #[.pointer (some ⟨gc, 0, none⟩)] w fun e w' => e = .returned (.agg noT.L.toArray) ∧ Fr Nob w w' := by
 obtain ⟨gp, a, b⟩ := h
 exact i0J mP gc gp gXn gYn w c0w a b
theorem x0J (x y : Nat) : jN x y 1 = .A (kc x) (kc y) := by
 unfold jN
 refine z0e ap12 ?_ ?_
 ·rw [t0b]; grind -lia -linarith
 ·rw [t0b]; grind -lia -linarith
def t0d (x y : Nat) (h : onC (.A (kc x) (kc y))) : PT := ⟨x, y, 1, by rw [x0J]; exact h⟩
theorem n0Y (x y : Nat) (h : onC (.A (kc x) (kc y))) : (t0d x y h).pt = .A (kc x) (kc y) := x0J x y
theorem k0X : onC (.A (kc gXn) (kc gYn)) := by
 show kc gYn * kc gYn = kc gXn * kc gXn * kc gXn + 7
 decide
def m0K : PT := t0d gXn gYn k0X
theorem v0X : m0K.pt = .A (kc gXn) (kc gYn) := n0Y _ _ _
def PT.isO (s : PT) : Bool := s.z % mP.M == 0
theorem PT.isO_t {s : PT} (h : s.isO = true) : s.pt = .O := by
 have hz : kc s.z = 0 := by simpa using r0r _ d0x s.z _ h
 exact z0d hz
theorem PT.isO_f {s : PT} (h : s.isO = false) : kc s.z ≠ 0 := by simpa using r0r _ d0x s.z _ h
end Go.Proofs.YtmebmhjppmfbbaaGreat


set_option maxHeartbeats 16000000
set_option maxRecDepth 1000000
namespace Go.Mv
open Go.RowKit
section
variable {P : Program} {w w0 : World} {ops : Array Oper} {rest : List Oper} {o : Oper} {a : Act} {Q : Exit → Act → World → Prop} {S : Nat → Prop} {bl : List (Nat × List Value × TypeId)} {K : Act → World → Prop}
theorem g0C (hst : St S w0 w bl) (i : Nat) {g : Nat} {L : List Value} {T : TypeId} (hb : bl[i]? = some (g, L, T)) {ty : TypeId} {x y : Operand} (hgd : o.guard = none) (ho : o.op = .store ty x y) {p : Nat} (hx : a.eval x = .pointer (some ⟨g, p, none⟩)) {cs : List Value} (hy : a.eval y = .agg cs.toArray)
  (L' : List Value) (hL : splice L p cs = L') (hn : p + cs.length ≤ L.length) (hi : (P.info? ty).map (·.size) = some cs.length) (h1 : ∀ v ∈ cs, v.oneCell' = true)
  (h : ∀ w', St S w0 w' (bl.set i (g, L', T)) → wpList P ops Q rest (a.put o.dst undef) w') : wpList P ops Q (o :: rest) a w :=
 d0d hgd ho hx hy (hst.at i hb) hn hi h1 fun w' hg hf _ => h w' (hst.put i hb hf (by rwa [hL] at hg))
theorem i0L (hst : St S w0 w bl) (i : Nat) {g : Nat} {L : List Value} {T : TypeId} (hb : bl[i]? = some (g, L, T)) {ty : TypeId} {x y : Operand} (ho : o.op = .store ty x y) {p : Nat} (hx : a.eval x = .pointer (some ⟨g, p, none⟩)) {cs : List Value} (hy : a.eval y = .agg cs.toArray)
  (L' : List Value) (hL : splice L p cs = L') (hn : p + cs.length ≤ L.length) (hi : (P.info? ty).map (·.size) = some cs.length) (h1 : ∀ v ∈ cs, v.oneCell' = true)
  (h : ∀ w', St S w0 w' (bl.set i (g, L', T)) → K (a.put o.dst undef) w') : o.wp P a w K Q := by
 obtain ⟨k1, k2, _⟩ := Has.setCells cs p L w (hst.at i hb) hn
 rw [hL] at k1
 exact wp_store_mid ty x y ho g p cs.toArray hx hy (by simpa using (hst.at i hb).there p cs.length hn) (by simpa using hi) (all_oneCell_toArray h1) (by simpa using h _ (hst.put i hb k2 k1))
theorem j0O (A B C : List Value) (n : Nat) (hA : A.length = n) (hC : C.length = B.length) : splice (A ++ B) n C = A ++ C := by
 unfold splice
 subst hA
 rw [List.take_left, List.drop_append, List.drop_of_length_le ap13, List.drop_of_length_le ap13]
 simp
theorem j0P (A B D C : List Value) (n : Nat) (hA : A.length = n) (hC : C.length = B.length) : splice (A ++ (B ++ D)) n C = A ++ (C ++ D) := by
 unfold splice
 subst hA
 rw [List.take_left, List.drop_append, List.drop_of_length_le ap13, List.nil_append, show A.length + C.length - A.length = B.length by omega, List.drop_left]
end
end Go.Mv
namespace Go.Proofs.YtmebmhjppmfbbaaGreat
open Go.RowKit Go.Mv Mvp Mvq
theorem OfI (m : Md) (hk : KindOf 0 m) (w : World) : Calls Tryz.prog 142 #[.int .i64 0] w fun e w' => ∃ g, e = .returned (.tuple #[.pointer (some ⟨g, 0, none⟩), .bool true]) ∧ w.heap.size ≤ g ∧ Has w' g (mdL m) 185 ∧ Fr Nob w w' := by
 cases hk
 go_enter Tryz.func142, Tryz.ntmps142
 go_wp2
 go_ret2
 exact ⟨_, rfl, Nat.le_refl _, by rw [← p0h]; exact Has.new w _ _, (Fr.refl Nob w).alloc _⟩
theorem v0Y : Tryz.prog.built 108 [(0, .int .u64 6481385041966929816), (1, .int .u64 188021827762530521), (2, .int .u64 6170039885052185351), (3, .int .u64 8772561819708210092)] = some (cw 4 gXn).toArray := by kernel_rfl
theorem v0Z : Tryz.prog.built 108 [(0, .int .u64 11261198710074299576), (1, .int .u64 18237243440184513561), (2, .int .u64 6747795201694173352), (3, .int .u64 5204712524664259685)] = some (cw 4 gYn).toArray := by kernel_rfl
theorem C0P : gXn < B64 ^ 4 := by decide
theorem C0Q : gYn < B64 ^ 4 := by decide
theorem t0e (p : Option Addr) (a : Nat) : Tryz.prog.built 122 [(0, .pointer p), (1, i4 a)] = some ([Value.pointer p] ++ (cw 4 a ++ (cw 4 0 ++ (cw 4 0 ++ cw 4 0)))).toArray := by kernel_rfl
theorem q0V (p : Value) (a b c d : Nat) : splice ([p] ++ (cw 4 a ++ (cw 4 0 ++ (cw 4 0 ++ cw 4 0)))) 5 (cw 4 b ++ (cw 4 c ++ cw 4 d)) = [p] ++ (cw 4 a ++ (cw 4 b ++ (cw 4 c ++ cw 4 d))) := by
 have h := j0O ([p] ++ cw 4 a) (cw 4 0 ++ (cw 4 0 ++ cw 4 0)) (cw 4 b ++ (cw 4 c ++ cw 4 d)) 5 (by rw [List.length_append, a0e]; rfl) ap5
 rw [List.append_assoc, List.append_assoc] at h
 exact h
theorem z0k (p : Value) (a b c d : Nat) : ([p] ++ (cw 4 a ++ (cw 4 b ++ (cw 4 c ++ cw 4 d)))).length = 17 := by simp only [List.length_append, a0e]; rfl
attribute [local irreducible] a0E lw mix cw b0o b0x b0l a0L a0q beN b0F b0c b0z a0J a0N elN mdL b0e rtN rtV b0Q gXn gYn
theorem w0a (m : Md) (hk : KindOf 0 m) (w : World) :
  Calls Tryz.prog 82 #[] w fun e w' => ∃ gc, e = .returned (.pointer (some ⟨gc, 0, none⟩)) ∧ w.heap.size ≤ gc ∧ (∃ gp, Has w' gc (f0C m gp gXn gYn) 122 ∧ Has w' gp (mdL m) 185) ∧ Fr Nob w w' := by
 have HK := Lib.hid hk
 have HOK := Lib.hid hk.ok
 have HGX := Lib.hid C0P
 have HGY := Lib.hid C0Q
 clear hk
 have st0 := St.start Nob w
 go_enter Tryz.func82, Tryz.ntmps82
 go_wp2_with fail
 refine (OfI m HK.out _).mono ?_
 rintro e' w1 ⟨gp, rfl, hle, hm, hf1⟩
 have st1 : St Nob w w1 [(gp, mdL m, 185)] := st0.new hf1 hm hle
 clear st0 hf1 hm hle
 go_wp2_with fail
 refine (j0H m gp _ HOK.out (st1.at 0 rfl) 7 ap12).mono ?_
 rintro e' w2 ⟨rfl, hf2⟩
 have st2 := st1.keep hf2
 clear st1 hf2
 go_wp2_with (with_reducible refine wSk 13 ?_)
 refine a0X rfl rfl _ (t0e _ _) ?_
 go_wp2_with (with_reducible refine wSk 14 ?_)
 refine a0l st2 rfl rfl rfl ([Value.pointer (some ⟨gp, 0, none⟩)] ++ (cw 4 (elN m 7) ++ (cw 4 0 ++ (cw 4 0 ++ cw 4 0)))) rfl ?_
 intro gc w3 st3
 clear st2
 go_wp2_with (with_reducible refine wSk 16 ?_)
 refine a0X rfl rfl _ v0Y ?_
 go_wp2_with fail
 refine (d0Y m gp _ HOK.out (st3.at 0 rfl) gXn HGX.out).mono ?_
 rintro e' w4 ⟨rfl, hf4⟩
 have st4 := st3.keep hf4
 clear st3 hf4
 go_wp2_with (with_reducible refine wSk 19 ?_)
 refine a0X rfl rfl _ v0Z ?_
 go_wp2_with fail
 refine (d0Y m gp _ HOK.out (st4.at 0 rfl) gYn HGY.out).mono ?_
 rintro e' w5 ⟨rfl, hf5⟩
 have st5 := st4.keep hf5
 clear st4 hf5
 go_wp2_with (with_reducible refine wSk 4 ?_)
 refine a0a st5 rfl rfl (z := zAd) ap11 (cw 4 0) ap9 ?_
 intro g4 w6 st6
 clear st5
 go_wp2_with (with_reducible refine wSk 5 ?_)
 refine a0a st6 rfl rfl (z := zAd) ap11 (cw 4 0) ap9 ?_
 intro g5 w7 st7
 clear st6
 go_wp2_with (with_reducible refine wSn ?_)
 refine a0b st7 2 rfl rfl rfl rfl rfl ap5 ap4 (a0g _ _) ?_
 intro w8 st8
 clear st7
 go_wp2_with (with_reducible refine wSn ?_)
 refine a0b st8 3 rfl rfl rfl rfl rfl ap5 ap4 (a0g _ _) ?_
 intro w9 st9
 clear st8
 go_wp2_with fail
 refine wp_region_noPanic ?_
 refine a0o (fun wx => St Nob w wx [(gp, mdL m, 185), (gc, [Value.pointer (some ⟨gp, 0, none⟩)] ++ (cw 4 (elN m 7) ++ (cw 4 0 ++ (cw 4 0 ++ cw 4 0))), 122), (g4, cw 4 (elN m gXn), 59), (g5, cw 4 (elN m gYn), 59)]) 11 (.w 0 (.t 1 (.t 2 (.w 3 (.w 4 (.w 5 (.t 6 (.r 7 (.w 8 (.w 9 (.w 10 (.m 11 .nil)))))))))))) ap11 ap11 st9.drew (fun _ _ _ _ _ h => h) ?_
 have hd9 := st9.drew
 clear st9
 refine a0k rfl rfl apW ?_
 try simp only [clL]
 refine a0s rfl rfl rfl rfl (cw 4 (elN m gXn)) (fun wx hS => St.rangeL hS 2 rfl 0 _ dZl) Tryz.underlying59 rfl ap4 ?_
 try simp only [clL]
 refine a0s rfl rfl rfl rfl (cw 4 (elN m gYn)) (fun wx hS => St.rangeL hS 3 rfl 0 _ dZl) Tryz.underlying59 rfl ap4 ?_
 try simp only [clL]
 refine a0k rfl rfl apW ?_
 try simp only [clL]
 refine a0k rfl rfl apW ?_
 try simp only [clL]
 refine a0k rfl rfl apW ?_
 try simp only [clL]
 refine d0T (v := ?_) rfl rfl (fun wx hS => ?_) ?_
 rotate_left 1
 ·(have hc := (St.at hS 1 rfl).cell (i := 0) rfl; clear hS; go_simp; with_reducible rfl)
 try simp only [clL]
 refine a0y rfl rfl ?_
 go_simp
 refine (e0C m gp _ HOK.out (hd9.at 0 rfl)).mono ?_
 rintro e' w10 ⟨rfl, hf10⟩
 have st10 := hd9.keep hf10
 clear hf10
 clear hd9
 refine ⟨st10, ?_⟩
 try simp only [clL]
 refine a0k rfl rfl (b0f rfl _ (f0o _ _ _)) ?_
 try simp only [clL]
 refine a0k rfl rfl apW ?_
 try simp only [clL]
 refine a0k rfl rfl apW ?_
 try simp only [clL]
 refine a0r rfl rfl ?_
 refine i0L st10 1 rfl rfl rfl rfl _ (q0V _ _ _ _ _) (by rw [z0k]; simp only [List.length_append, a0e]; decide) ap4 (a0Q _ _ _) ?_
 intro w11 st11
 have st11 : St Nob w w11 [(gp, mdL m, 185), (gc, [Value.pointer (some ⟨gp, 0, none⟩)] ++ (cw 4 (elN m 7) ++ (cw 4 (elN m gXn) ++ (cw 4 (elN m gYn) ++ cw 4 (elN m 1)))), 122), (g4, cw 4 (elN m gXn), 59), (g5, cw 4 (elN m gYn), 59)] := st11
 clear st10
 try simp only [Act.put]
 refine a0j ?_
 refine NoPanic.normal ?_
 have hown := st11.own _ (List.mem_of_getElem? (i := 1) rfl)
 have hc := st11.at 1 rfl
 have hm := st11.at 0 rfl
 have hfr := st11.fr
 clear st11
 have hge := hown.resolve_right (fun h => h)
 clear hown
 have HGE := Lib.hid hge
 clear hge
 go_wp2_with fail
 go_ret
 exact ⟨gc, rfl, HGE.out, ⟨gp, hc, hm⟩, hfr⟩
theorem d0V (w : World) : Calls Tryz.prog 82 #[] w fun e w' => ∃ gc, e = .returned (.pointer (some ⟨gc, 0, none⟩)) ∧ w.heap.size ≤ gc ∧ Cv w' gc ∧ Fr Nob w w' := w0a mP .zero w
end Go.Proofs.YtmebmhjppmfbbaaGreat


set_option maxHeartbeats 16000000
set_option maxRecDepth 1000000
namespace Go.Mv
open Go.RowKit
theorem d0y (f : Nat → List Value) (k : Nat) (hl : ∀ i, (f i).length = k) : ∀ n, ((List.range n).flatMap f).length = k * n
 | 0 => by simp
 | n + 1 => by rw [List.range_succ, List.flatMap_append, List.length_append, d0y f k hl n]; simp [hl, Nat.mul_succ]
theorem f0q (f : Nat → List Value) (n i : Nat) (h : i < n) : (List.range n).flatMap f = (List.range i).flatMap f ++ (f i ++ (List.range' (i + 1) (n - i - 1)).flatMap f) := by
 have e : List.range n = List.range i ++ i :: List.range' (i + 1) (n - i - 1) := by
  rw [List.range_eq_range', List.range_eq_range']
  have h1 : n = i + (n - i - 1 + 1) := by omega
  conv => lhs; rw [h1]
  rw [← List.range'_append_1, List.range'_succ]
  simp
 rw [e]; simp
theorem p0r (f : Nat → List Value) (k : Nat) (hl : ∀ i, (f i).length = k) (n i : Nat) (h : i < n) : (((List.range n).flatMap f).drop (i * k)).take (f i).length = f i := by
 rw [f0q f n i h, List.drop_append_of_le_length (by rw [d0y f k hl, Nat.mul_comm]; omega), List.drop_of_length_le (by rw [d0y f k hl, Nat.mul_comm]; omega), List.nil_append, List.take_left]
theorem p0s (f f' : Nat → List Value) (k : Nat) (hl : ∀ i, (f i).length = k) (n i : Nat) (h : i < n) (hi : (f' i).length = k) (hv : ∀ j, j ≠ i → f' j = f j) : splice ((List.range n).flatMap f) (i * k) (f' i) = (List.range n).flatMap f' := by
 rw [f0q f n i h, f0q f' n i h]
 have e1 : (List.range i).flatMap f' = (List.range i).flatMap f := by
  rw [List.flatMap_def, List.flatMap_def]
  congr 1
  exact List.map_congr_left fun j hj => hv j (by have := List.mem_range.1 hj; omega)
 have e2 : (List.range' (i + 1) (n - i - 1)).flatMap f' = (List.range' (i + 1) (n - i - 1)).flatMap f := by
  rw [List.flatMap_def, List.flatMap_def]
  congr 1
  exact List.map_congr_left fun j hj => hv j (by have := List.mem_range'_1.1 hj; omega)
 rw [e1, e2]
 exact j0P _ _ _ _ _ (by rw [d0y f k hl, Nat.mul_comm]) (by rw [hi, hl])
end Go.Mv
namespace Go.Proofs.YtmebmhjppmfbbaaGreat
open Go.RowKit Go.Mv Mvp Mvq
noncomputable def f0v (s : PT) : Nat → PT
 | 0 => noT
 | i + 1 => l0r (f0v s i) s
theorem t0f (s : PT) : ∀ i, (f0v s i).pt = a0P i s.pt
 | 0 => t0c
 | i + 1 => by
  show (l0r (f0v s i) s).pt = a0U (a0P i s.pt) s.pt
  rw [t0a, t0f s i]
theorem B0z (s : PT) (k gc : Nat) (w : World) (h : Cv w gc) : Calls Tryz.prog 155 #[.pointer (some ⟨gc, 0, none⟩), (.agg (f0v s k).L.toArray), (.agg s.L.toArray)] w fun e w' => e = .returned (.agg (f0v s (k + 1)).L.toArray) ∧ Fr Nob w w' := x0I (f0v s k) s gc w h
noncomputable def tbR (s : PT) (j i : Nat) : List Value := if i < j then (f0v s i).L else cw 12 0
noncomputable def tbL (s : PT) (j : Nat) : List Value := (List.range 16).flatMap (tbR s j)
theorem k0Y (s : PT) (j i : Nat) : (tbR s j i).length = 12 := by
 unfold tbR; split
 ·exact PT.len _
 ·exact a0e _ _
theorem b0U (s : PT) (j : Nat) : (tbL s j).length = 192 := d0y _ 12 (k0Y s j) 16
theorem t0g (s : PT) (j : Nat) : ∀ v ∈ tbL s j, v.oneCell' = true := by
 intro v hv
 unfold tbL at hv
 obtain ⟨i, -, hi⟩ := List.mem_flatMap.1 hv
 unfold tbR at hi
 split at hi
 ·exact PT.one _ v hi
 ·exact a0g _ _ v hi
theorem w0b (s : PT) : (Value.agg (List.replicate 192 (Value.int .u64 0)).toArray).cells.toList = tbL s 0 := by
 unfold tbL tbR
 simp only [Nat.not_lt_zero, if_false, f0L]
 rfl
theorem t0h (s : PT) (j : Nat) (h : j < 16) : splice (tbL s j) (j * 12) (f0v s j).L = tbL s (j + 1) := by
 have h0 := p0s (tbR s j) (tbR s (j + 1)) 12 (k0Y s j) 16 j h (k0Y s _ _) (fun i hi => by unfold tbR; by_cases hc : i < j; rw [if_pos hc, if_pos ap13]; rw [if_neg hc, if_neg ap13])
 have e : tbR s (j + 1) j = (f0v s j).L := by unfold tbR; rw [if_pos ap13]
 rw [e] at h0
 exact h0
theorem w0c (s : PT) : splice (tbL s 0) 0 noT.L = tbL s (0 + 1) := t0h s 0 ap13
theorem t0i (s : PT) (j i : Nat) (h : i < j) (hj : j ≤ 16) : ((tbL s j).drop (i * 12)).take (f0v s i).L.length = (f0v s i).L := by
 have h0 := p0r (tbR s j) 12 (k0Y s j) 16 i ap13
 have e : tbR s j i = (f0v s i).L := by unfold tbR; rw [if_pos h]
 rw [e] at h0
 exact h0
theorem w0d : (Tryz.prog.info? 140).map (·.zero) = some (some (.agg (List.replicate 192 (.int .u64 0)).toArray)) := by kernel_rfl
attribute [local irreducible] a0E lw mix cw b0o b0x b0l a0L a0q beN b0F b0c b0z a0J a0N elN mdL b0e rtN rtV b0Q gXn gYn PT.L l0r k0V f0v tbL
theorem _root_.ap6 {p : Prop} (h : p := by first | (rw [a0e]; kernel_rfl) | (simp only [PT.len]; kernel_rfl)) : p := h
theorem i0M (s : PT) (gc : Nat) (w : World) (h : Cv w gc) :
  Calls Tryz.prog 95 #[.pointer (some ⟨gc, 0, none⟩), .agg s.L.toArray] w fun e w' => e = .returned (.agg (tbL s 16).toArray) ∧ Fr Nob w w' := by
 have HCV := Lib.hid h
 clear h
 have st0 := St.start Nob w
 go_enter Tryz.func95, Tryz.ntmps95
 go_wp2_with (with_reducible refine wSk 3 ?_)
 refine a0l st0 rfl rfl rfl (s.L) rfl ?_
 intro g3 w1 st1
 clear st0
 go_wp2_with (with_reducible refine wSk 4 ?_)
 refine a0a st1 rfl rfl w0d (tbL s 0) (w0b s) ?_
 intro g4 w2 st2
 clear st1
 go_wp2_with fail
 refine (m0J gc _ (HCV.out.keep st2.fr)).mono ?_
 rintro e' w3 ⟨rfl, hf3⟩
 have st3 := st2.keep hf3
 clear st2 hf3
 go_wp2_with (with_reducible refine wSn ?_)
 refine g0C st3 1 rfl rfl rfl rfl rfl (tbL s (0 + 1)) (w0c s) (by rw [b0U, PT.len]; omega) ap6 (PT.one _) ?_
 intro w4 st4
 have st4 : St Nob w w4 [(g3, s.L, 114), (g4, tbL s (0 + 1), 140)] := st4
 clear st3
 go_wp2
 go_loopw [5] (fun i wr => ∃ k : Nat, k ≤ 15 ∧ i = .int .i64 ((k : Int) + 1) ∧ St Nob w wr [(g3, s.L, 114), (g4, tbL s (k + 1), 140)]) (fun i _ => (16 - intOf i).toNat)
 case atStart => exact ⟨0, by omega, rfl, st4⟩
 case round =>
  obtain ⟨k, hk, rfl, st⟩ := hrel
  clear st4
  rcases Nat.lt_or_ge k 15 with hk2 | hk2
  ·have hc : ((k : Int) + 1 < 16) := by omega
   have hlt : (k : Int) + 1 < 9223372036854775808 := by omega
   have hl2 : (k : Int) < 9223372036854775808 := by omega
   have hl3 : (k : Int) < 16 := by omega
   have hl4 : IntKind.i64.wrap (k : Int) = (k : Int) := IntWalk.i64_in _ ap13
   have hl5 : (0 : Int) ≤ (k : Int) := by omega
   have hl6 : (0 : Int) ≤ (k : Int) + 1 := by omega
   go_wp2_with fail
   refine wp_region_noPanic ?_
   refine a0o (fun wx => St Nob w wx [(g3, s.L, 114), (g4, tbL s (k + 1), 140)]) 9 (.w 0 (.w 1 (.w 2 (.w 3 (.w 4 (.t 5 (.t 6 (.r 7 (.w 8 (.m 9 .nil)))))))))) ap11 ap11 st.drew (fun _ _ _ _ _ h => h) ?_
   have hd4 := st.drew
   clear st
   refine a0k rfl rfl apW ?_
   try simp only [clL]
   refine a0k rfl rfl apW ?_
   try simp only [clL]
   refine a0k rfl rfl apW ?_
   try simp only [clL]
   refine a0k rfl rfl apW ?_
   try simp only [clL]
   refine a0k rfl rfl apW ?_
   try simp only [clL]
   refine a0s rfl rfl rfl rfl ((f0v s k).L) (fun wx hS => St.rangeL hS 1 rfl (k * 12) _ (t0i s (k + 1) k ap13 ap13)) Tryz.underlying114 rfl ap6 ?_
   try simp only [clL]
   refine a0s rfl rfl rfl rfl (s.L) (fun wx hS => St.rangeL hS 0 rfl 0 _ dZl) Tryz.underlying114 rfl ap6 ?_
   try simp only [clL]
   refine a0y rfl rfl ?_
   go_simp
   refine (B0z s k gc _ (HCV.out.keep hd4.fr)).mono ?_
   rintro e' w5 ⟨rfl, hf5⟩
   have st5 := hd4.keep hf5
   clear hf5
   clear hd4
   refine ⟨st5, ?_⟩
   try simp only [clL]
   refine a0k rfl rfl apW ?_
   try simp only [clL]
   refine a0r rfl rfl ?_
   refine i0L st5 1 rfl rfl rfl rfl (tbL s ((k + 1) + 1)) (t0h s (k + 1) ap13) (by rw [b0U, PT.len]; omega) ap6 (PT.one _) ?_
   intro w6 st6
   have st6 : St Nob w w6 [(g3, s.L, 114), (g4, tbL s ((k + 1) + 1), 140)] := st6
   clear st5
   try simp only [Act.put]
   refine a0j ?_
   refine NoPanic.normal ?_
   go_wp2
   go_roundw
   case rel => exact ⟨k + 1, by omega, by simp, st6⟩
   case measure => simp [intOf]; omega
  ·have hk3 : k = 15 := by omega
   subst hk3
   have hc : ¬ (((15 : Nat) : Int) + 1 < 16) := by omega
   go_wp2_with (with_reducible refine wSk 22 ?_)
   refine a0m st 1 rfl rfl rfl Tryz.underlying140 rfl rfl (by first | (rw [a0e]; kernel_rfl) | (simp only [b0U]; kernel_rfl)) ?_
   go_wp2_with (with_reducible refine wSn ?_)
   refine a0b st 1 rfl rfl rfl rfl rfl (by first | (simp only [a0e]; done) | (simp only [List.length_append, a0e, PT.len, b0U]; done)) (by first | (rw [a0e]; kernel_rfl) | (simp only [b0U]; kernel_rfl)) (t0g _ _) ?_
   intro w5 st5
   clear st
   have hr := st5.at 1 rfl
   have hfr := st5.fr
   clear st5
   go_wp2_with fail
   exact bodyPost_ret (a0u rfl rfl hr Tryz.underlying140 (by first | (rw [a0e]; kernel_rfl) | (simp only [b0U]; kernel_rfl))) rfl ⟨rfl, hfr⟩
end Go.Proofs.YtmebmhjppmfbbaaGreat


set_option maxHeartbeats 16000000
set_option maxRecDepth 1000000
namespace Mvp
theorem w0e (n j : Nat) : lw n (4 * j / 64) / 2 ^ (4 * j % 64) % 16 = n / 16 ^ j % 16 := by
 have h64 : (18446744073709551616 : Nat) = 2 ^ (4 * j % 64) * 2 ^ (64 - 4 * j % 64) := by
  rw [← Nat.pow_add, show 4 * j % 64 + (64 - 4 * j % 64) = 64 by omega]
 have hd : (16 : Nat) ∣ 2 ^ (64 - 4 * j % 64) := by
  have : 64 - 4 * j % 64 = 4 + (60 - 4 * j % 64) := by omega
  rw [this, Nat.pow_add]
  exact Nat.dvd_mul_right _ _
 have hp : B64 ^ (4 * j / 64) * 2 ^ (4 * j % 64) = 16 ^ j := by
  have h16 : (16 : Nat) ^ j = 2 ^ (4 * j) := by rw [Nat.pow_mul]
  have hB : B64 ^ (4 * j / 64) = 2 ^ (64 * (4 * j / 64)) := by rw [Nat.pow_mul]
  rw [h16, hB, ← Nat.pow_add, Nat.div_add_mod]
 show n / B64 ^ (4 * j / 64) % 18446744073709551616 / 2 ^ (4 * j % 64) % 16 = _
 rw [h64, Nat.mod_mul_right_div_self, Nat.mod_mod_of_dvd _ hd, Nat.div_div_eq_div_mul, hp]
end Mvp
namespace Go.Mv
open Go.RowKit
theorem z0l {L R : List Value} {a n : Nat} (h : (L.drop a).take n = R) (b : Nat) (cs : List Value) (hb : b + cs.length ≤ n) (hc : (R.drop b).take cs.length = cs) : (L.drop (a + b)).take cs.length = cs := by
 rw [← h, List.drop_take, List.drop_drop, List.take_take, Nat.min_eq_left ap13] at hc
 exact hc
end Go.Mv
namespace Go.Proofs.YtmebmhjppmfbbaaGreat
open Go.RowKit Go.Mv Mvp Mvq
noncomputable def tmR (t : Nat × PT) : List Value := cw 4 t.1 ++ tbL t.2 16
theorem c0Z (t : Nat × PT) : (tmR t).length = 196 := by unfold tmR; rw [List.length_append, a0e, b0U]
theorem w0f (t : Nat × PT) (k : Nat) (h : k < 4) : (tmR t)[k]? = some (.int .u64 (lw t.1 k)) := by
 unfold tmR
 rw [List.getElem?_append_left (by rw [a0e]; exact h)]
 exact a0D 4 t.1 k h
theorem z0m (t : Nat × PT) (d : Nat) (h : d < 16) : ((tmR t).drop (4 + d * 12)).take (f0v t.2 d).L.length = (f0v t.2 d).L := by
 have e : (tmR t).drop (4 + d * 12) = (tbL t.2 16).drop (d * 12) := by
  unfold tmR
  rw [List.drop_append, List.drop_of_length_le (by rw [a0e]; omega), List.nil_append, a0e, show 4 + d * 12 - 4 = d * 12 by omega]
 rw [e]
 exact t0i t.2 16 d h (Nat.le_refl _)
def g0K (l : List (Nat × PT)) (k : Nat) : Nat × PT := l.getD k (0, noT)
noncomputable def tmL (l : List (Nat × PT)) : List Value := (List.range l.length).flatMap fun k => tmR (g0K l k)
theorem z0n (l : List (Nat × PT)) : (tmL l).length = l.length * 196 := by
 rw [Nat.mul_comm]; exact d0y _ 196 (fun i => c0Z _) _
theorem t0j (l : List (Nat × PT)) (k : Nat) (h : k < l.length) : ((tmL l).drop (k * 196)).take (tmR (g0K l k)).length = tmR (g0K l k) :=
 p0r (fun k => tmR (g0K l k)) 196 (fun _ => c0Z _) l.length k h
theorem z0o (l : List (Nat × PT)) (k d : Nat) (h : k < l.length) (hd : d < 16) : ((tmL l).drop (k * 196 + (4 + d * 12))).take (f0v (g0K l k).2 d).L.length = (f0v (g0K l k).2 d).L := by
 refine z0l (t0j l k h) _ _ ?_ (z0m _ d hd)
 rw [c0Z, PT.len]; omega
noncomputable def dbN (o : PT) : Nat → PT
 | 0 => o
 | q + 1 => k0V (dbN o q)
theorem C0R (o : PT) (q gc : Nat) (w : World) (h : Cv w gc) : Calls Tryz.prog 154 #[.pointer (some ⟨gc, 0, none⟩), (.agg (dbN o q).L.toArray)] w fun e w' => e = .returned (.agg (dbN o (q + 1)).L.toArray) ∧ Fr Nob w w' := v0W (dbN o q) gc w h
theorem B0A (o : PT) (_ : o.pt = o.pt) : (dbN o 4).pt = a0P 16 o.pt := by
 show (k0V (k0V (k0V (k0V o)))).pt = _
 rw [k0W, k0W, k0W, k0W, z0i o.onP]
noncomputable def h0H (l : List (Nat × PT)) (i : Nat) (o : PT) : Nat → PT
 | 0 => o
 | k + 1 => l0r (h0H l i o k) (f0v (g0K l k).2 (dig (63 - i) (g0K l k).1))
theorem B0B (l : List (Nat × PT)) (i : Nat) (o : PT) (k d : Nat) (hd : dig (63 - i) (g0K l k).1 = d) (gc : Nat) (w : World) (h : Cv w gc) : Calls Tryz.prog 155 #[.pointer (some ⟨gc, 0, none⟩), (.agg (h0H l i o k).L.toArray), (.agg (f0v (g0K l k).2 d).L.toArray)] w fun e w' => e = .returned (.agg (h0H l i o (k + 1)).L.toArray) ∧ Fr Nob w w' := by
 subst hd
 exact x0I (h0H l i o k) _ gc w h
noncomputable def h0q (l : List (Nat × PT)) : Nat → PT
 | 0 => noT
 | i + 1 => h0H l i (dbN (h0q l i) 4) l.length
theorem t0k (l : List (Nat × PT)) (i : Nat) : h0H l i (dbN (h0q l i) 4) l.length = h0q l (i + 1) := rfl
theorem t0l (l : List (Nat × PT)) : noT = h0q l 0 := rfl
theorem w0g (o : PT) : dbN o 0 = o := rfl
theorem t0m (l : List (Nat × PT)) (i : Nat) (o : PT) : h0H l i o 0 = o := rfl
noncomputable def i0N (l : List (Nat × PT)) : PT := h0q l 64
theorem z0p (l : List (Nat × PT)) : h0q l 64 = i0N l := rfl
attribute [local irreducible] a0E lw mix cw b0o b0x b0l a0L a0q beN b0F b0c b0z a0J a0N elN mdL b0e rtN rtV b0Q gXn gYn PT.L l0r k0V f0v tbL tmR tmL dbN h0H h0q i0N dig
theorem z0q (t : Nat × PT) (i d : Nat) (hi : i < 64) (hd : dig (63 - i) t.1 = d) (w : World) :
  Calls Tryz.prog 156 #[.agg (tmR t).toArray, .int .i64 (i : Int)] w fun e w' => e = .returned (.int .u64 (d : Int)) ∧ Fr Nob w w' := by
 obtain ⟨a, ha⟩ : ∃ a, 252 - 4 * i = a := ⟨_, rfl⟩
 have ha2 : 4 * (63 - i) = a := by omega
 have hdd : lw t.1 (a / 64) / 2 ^ (a % 64) % 16 = d := by
  have := w0e t.1 (63 - i)
  rw [ha2] at this
  rw [this]
  unfold dig at hd
  exact hd
 have HD := Lib.hid hdd
 clear hd hdd
 have hal : a < 256 := by omega
 have haI : (256 : Int) - 4 * ((i : Int) + 1) = (a : Int) := by omega
 have st0 := St.start Nob w
 go_enter Tryz.func156, Tryz.ntmps156
 go_wp2_with (with_reducible refine wSk 2 ?_)
 refine a0l st0 rfl rfl rfl (tmR t) rfl ?_
 intro g1 w1 st1
 clear st0
 have c1 := (st1.at 0 rfl).cell (w0f t (a / 64) ap13)
 have hlo : (0 : Int) ≤ (a : Int) / 64 ∧ (a : Int) / 64 < 4 := by omega
 have hlo2 : (0 : Int) ≤ (a : Int) % 64 ∧ (a : Int) % 64 < 64 := by omega
 have e4 : ((a : Int) / 64).toNat = a / 64 := by omega
 have e5 : ((a : Int) % 64).toNat = a % 64 := by omega
 have hiI : (i : Int) < 64 := by omega
 have e6 : IntKind.i64.wrap ((i : Int) + 1) = (i : Int) + 1 := IntWalk.i64_in _ ap13
 have e7 : IntKind.i64.wrap (4 * ((i : Int) + 1)) = 4 * ((i : Int) + 1) := IntWalk.i64_in _ ap13
 have e8 : IntKind.i64.wrap (256 - 4 * ((i : Int) + 1)) = (a : Int) := by rw [haI]; exact IntWalk.i64_in _ ap13
 have hfr := st1.fr
 clear st1 haI
 have hw : lw t.1 (a / 64) / 2 ^ (a % 64) < 18446744073709551616 := Nat.lt_of_le_of_lt (Nat.div_le_self _ _) (c0T _ _)
 have hb := bits_and_u64_nat (lw t.1 (a / 64) / 2 ^ (a % 64)) 15 hw ap13
 rw [show (15 : Nat) = 2 ^ 4 - 1 by decide, Nat.and_two_pow_sub_one_eq_mod, show (2 : Nat) ^ 4 - 1 = 15 by decide, show (2 : Nat) ^ 4 = 16 by decide] at hb
 simp only [Int.natCast_ediv, Int.natCast_pow, Int.cast_ofNat_Int] at hb
 clear ha ha2 hi
 go_wp2
 go_ret
 refine ⟨k0E ?_, hfr⟩
 rw [← HD.out]
 simp
theorem B0C (l : List (Nat × PT)) (gc : Nat) (a : Option Addr) (n c : Nat) (w : World) (h : Cv w gc) (hl : l.length = n) (hn : n ≤ 100000) (htm : Rd w a (l.length * 196) (tmL l)) :
  Calls Tryz.prog 94 #[.pointer (some ⟨gc, 0, none⟩), .slice a n c] w fun e w' => e = .returned (.agg (i0N l).L.toArray) ∧ Fr Nob w w' := by
 subst hl
 rw [← z0p]
 have HCV := Lib.hid h
 have HTM := Lib.hid htm
 clear h htm
 have st0 := St.start Nob w
 go_enter Tryz.func94, Tryz.ntmps94
 go_wp2_with (with_reducible refine wSk 4 ?_)
 refine a0a st0 rfl rfl (z := .agg (List.replicate 12 (.int .u64 0)).toArray) ap11 (cw 12 0) ap9 ?_
 intro g4 w1 st1
 clear st0
 go_wp2_with fail
 refine (m0J gc _ (HCV.out.keep st1.fr)).mono ?_
 rintro e' w2 ⟨rfl, hf2⟩
 have st2 := st1.keep hf2
 clear st1 hf2
 go_wp2_with (with_reducible refine wSk 5 ?_)
 refine a0a st2 rfl rfl (z := .agg (List.replicate 12 (.int .u64 0)).toArray) ap11 (cw 12 0) ap9 ?_
 intro g5 w3 st3
 clear st2
 go_wp2_with (with_reducible refine wSn ?_)
 refine a0b st3 1 rfl rfl rfl rfl rfl (by first | (simp only [a0e]; done) | (simp only [List.length_append, a0e, PT.len, b0U, c0Z]; done)) ap6 (PT.one _) ?_
 intro w4 st4
 clear st3
 rw [t0l l] at st4
 go_wp2
 go_loopw [10] (fun x wr => ∃ i : Nat, i ≤ 64 ∧ x = .int .i64 (i : Int) ∧ St Nob w wr [(g4, cw 12 0, 114), (g5, (h0q l i).L, 114)]) (fun x _ => 64 - (intOf x).toNat)
 case atStart => exact ⟨0, by omega, rfl, st4⟩
 case round =>
  obtain ⟨i, hi, rfl, st⟩ := hrel
  clear st4
  by_cases hlt : i < 64
  ·have hltI : (i : Int) < 64 := by omega
   go_wp2
   go_loopw [13] (fun x wr => ∃ q : Nat, q ≤ 4 ∧ x = .int .i64 (q : Int) ∧ St Nob w wr [(g4, cw 12 0, 114), (g5, (dbN (h0q l i) q).L, 114)]) (fun x _ => 4 - (intOf x).toNat)
   case atStart => exact ⟨0, by omega, rfl, by rw [w0g]; exact st⟩
   case round =>
    obtain ⟨q, hq, rfl, st2⟩ := hrel
    clear st
    by_cases hq4 : q < 4
    ·have hqI : (q : Int) < 4 := by omega
     go_wp2_with (with_reducible refine wSk 16 ?_)
     refine a0m st2 1 rfl rfl rfl Tryz.underlying114 rfl rfl ap6 ?_
     go_wp2_with fail
     refine (C0R (h0q l i) q gc _ (HCV.out.keep st2.fr)).mono ?_
     rintro e' w5 ⟨rfl, hf5⟩
     have st5 := st2.keep hf5
     clear st2 hf5
     go_wp2_with (with_reducible refine wSn ?_)
     refine a0b st5 1 rfl rfl rfl rfl rfl (by first | (simp only [a0e]; done) | (simp only [List.length_append, a0e, PT.len, b0U, c0Z]; done)) ap6 (PT.one _) ?_
     intro w6 st6
     clear st5
     go_wp2
     go_roundw
     case rel => exact ⟨q + 1, by omega, by go_num, st6⟩
     case measure => simp [intOf]; omega
    ·have hqI : ¬ ((q : Int) < 4) := by omega
     have hq5 : q = 4 := by omega
     rw [hq5] at st2
     clear hq5
     go_wp2
     go_loopw [21] (fun x wr => ∃ k : Nat, k ≤ l.length ∧ x = .int .i64 (k : Int) ∧ St Nob w wr [(g4, cw 12 0, 114), (g5, (h0H l i (dbN (h0q l i) 4) k).L, 114)]) (fun x _ => l.length - (intOf x).toNat)
     case atStart => exact ⟨0, by omega, rfl, by rw [t0m]; exact st2⟩
     case round =>
      obtain ⟨k, hk, rfl, st3⟩ := hrel
      clear st2
      by_cases hkl : k < l.length
      ·have hkI : (k : Int) < (l.length : Int) := by omega
       obtain ⟨ba, oa, hea, -⟩ := HTM.out.at ap13
       subst hea
       obtain ⟨d, hd⟩ : ∃ d, dig (63 - i) (g0K l k).1 = d := ⟨_, rfl⟩
       have hd16 : d < 16 := by rw [← hd]; unfold dig; exact Nat.mod_lt _ ap12
       have HD := Lib.hid hd
       have HIL := Lib.hid hlt
       have HKL := Lib.hid hkl
       clear hd hlt hkl
       have HD16 := Lib.hid hd16
       have hd1 : (0 : Int) ≤ (d : Int) := by omega
       have hd2 : (d : Int) < 16 := by omega
       go_wp2_with fail
       refine wp_region_noPanic ?_
       refine a0o (fun wx => St Nob w wx [(g4, cw 12 0, 114), (g5, (h0H l i (dbN (h0q l i) 4) k).L, 114)]) 15 (.w 0 (.t 1 (.w 2 (.w 3 (.w 4 (.w 5 (.w 6 (.t 7 (.w 8 (.w 10 (.w 11 (.r 9 (.w 12 (.t 13 (.r 14 (.m 15 .nil)))))))))))))))) ap11 ap11 st3.drew (fun _ _ _ _ _ h => h) ?_
       have hd4 := st3.drew
       clear st3
       refine a0k rfl rfl apW ?_
       try simp only [clL]
       refine a0s rfl rfl rfl rfl ((h0H l i (dbN (h0q l i) 4) k).L) (fun wx hS => St.rangeL hS 1 rfl 0 _ dZl) Tryz.underlying114 rfl ap6 ?_
       try simp only [clL]
       refine a0k rfl rfl apW ?_
       try simp only [clL]
       refine a0k rfl rfl apW ?_
       try simp only [clL]
       refine a0k rfl rfl apW ?_
       try simp only [clL]
       refine a0k rfl rfl apW ?_
       try simp only [clL]
       refine a0k rfl rfl apW ?_
       try simp only [clL]
       refine a0s rfl rfl rfl rfl (tmR (g0K l k)) (fun wx hS => (k0M (HTM.out.still (St.fr hS)) (k * 196) _ (t0j l k HKL.out))) Tryz.underlying144 rfl (by first | (rw [a0e]; kernel_rfl) | (simp only [c0Z]; kernel_rfl)) ?_
       try simp only [clL]
       refine a0k rfl rfl apW ?_
       try simp only [clL]
       refine a0k rfl rfl apW ?_
       try simp only [clL]
       refine a0k rfl rfl apW ?_
       try simp only [clL]
       refine a0y rfl rfl ?_
       go_simp
       refine (z0q (g0K l k) i d HIL.out HD.out _).mono ?_
       rintro e' w5 ⟨rfl, hf5⟩
       have st5 := hd4.keep hf5
       clear hf5
       clear hd4
       refine ⟨st5, ?_⟩
       try simp only [clL]
       refine a0k rfl rfl apW ?_
       try simp only [clL]
       refine a0s rfl rfl rfl rfl ((f0v (g0K l k).2 d).L) (fun wx hS => by have hr := k0M (HTM.out.still (St.fr hS)) (k * 196 + (4 + d * 12)) _ (z0o l k d HKL.out HD16.out); rw [← Nat.add_assoc, ← Nat.add_assoc] at hr; exact hr) Tryz.underlying114 rfl ap6 ?_
       try simp only [clL]
       refine a0y rfl rfl ?_
       go_simp
       refine (B0B l i (dbN (h0q l i) 4) k d HD.out gc _ (HCV.out.keep st5.fr)).mono ?_
       rintro e' w6 ⟨rfl, hf6⟩
       have st6 := st5.keep hf6
       clear hf6
       clear st5
       refine ⟨st6, ?_⟩
       try simp only [clL]
       refine a0r rfl rfl ?_
       refine a0h st6 1 rfl rfl rfl rfl (by first | (simp only [a0e]; done) | (simp only [List.length_append, a0e, PT.len, b0U, c0Z]; done)) ap6 (PT.one _) ?_
       intro w7 st7
       clear st6
       try simp only [Act.put]
       refine a0j ?_
       refine NoPanic.normal ?_
       go_wp2
       go_roundw
       case rel => exact ⟨k + 1, by have := HKL.out; omega, by go_num, st7⟩
       case measure => have := HKL.out; simp [intOf]; omega
      ·have hkI : ¬ ((k : Int) < (l.length : Int)) := by omega
       have hk2 : k = l.length := by omega
       rw [hk2, t0k] at st3
       clear hk2
       go_wp2
       go_roundw
       case rel => exact ⟨i + 1, by omega, by go_num, st3⟩
       case measure => simp [intOf]; omega
  ·have hltI : ¬ ((i : Int) < 64) := by omega
   have hi2 : i = 64 := by omega
   rw [hi2] at st
   clear hi2
   go_wp2_with (with_reducible refine wSk 41 ?_)
   refine a0m st 1 rfl rfl rfl Tryz.underlying114 rfl rfl ap6 ?_
   go_wp2_with (with_reducible refine wSn ?_)
   refine a0b st 0 rfl rfl rfl rfl rfl (by first | (simp only [a0e]; done) | (simp only [List.length_append, a0e, PT.len, b0U, c0Z]; done)) ap6 (PT.one _) ?_
   intro w5 st5
   clear st
   have hr := st5.at 0 rfl
   have hfr := st5.fr
   clear st5
   go_wp2_with fail
   exact bodyPost_ret (a0t rfl rfl hr Tryz.underlying114 rfl ap6) rfl ⟨rfl, hfr⟩
end Go.Proofs.YtmebmhjppmfbbaaGreat


set_option maxHeartbeats 16000000
set_option maxRecDepth 1000000
namespace Go.Mv
open Go.RowKit
section
variable {P : Program} {w w0 : World} {ops : Array Oper} {rest : List Oper} {o : Oper} {a : Act} {Q : Exit → Act → World → Prop} {S : Nat → Prop} {bl : List (Nat × List Value × TypeId)} {K : Act → World → Prop}
theorem w0h (hst : St S w0 w bl) {t e : TypeId} {parts : Array (Nat × Operand)} (ho : o.op = .buildSlice t 1 parts) (hu : P.underlying t = some (.slice e)) {z : Value} {sz by_ : Nat} (hi0 : (P.info? e).map (fun i => (i.zero, i.size, i.bytes)) = some (some z, sz, by_)) (cs : List Value)
  (hp : (parts.toList.map fun p => (p.1, a.eval p.2)) = [(0, .agg cs.toArray)]) (hv : cs.length = sz) (h0 : 0 < sz) (h24 : sz ≤ 16777216)
  (h : ∀ g w', w.heap.size ≤ g → St S w0 w' (bl ++ [(g, cs, e)]) → K (a.put o.dst (.slice (some ⟨g, 0, none⟩) 1 1)) w') : o.wp P a w K Q := by
 obtain ⟨i, hi, hz0⟩ : ∃ i, P.info? e = some i ∧ (i.zero, i.size, i.bytes) = (some z, sz, by_) := by simpa using hi0
 simp only [Prod.mk.injEq] at hz0
 obtain ⟨hz1, hsz, hby⟩ := hz0
 have hf : Instr.fill (fun j => some (j * i.size, i.size)) ((Array.range (1 * i.size)).map (z.cells[· % z.cells.size]!)) (parts.map fun (i, x) => (i, a.eval x)).toList = some cs.toArray := by
  rw [show (parts.map fun (i, x) => (i, a.eval x)).toList = (parts.toList.map fun p => (p.1, a.eval p.2)) by simp, hp, hsz]
  have hfw := Great.fill_whole h0 [.agg cs.toArray] ((Array.range (1 * sz)).map (z.cells[· % z.cells.size]!)) (by intro v hv'; have h1 := List.mem_singleton.1 hv'; subst h1; show cs.toArray.size = sz; simpa using hv) ap14
  rw [show ([.agg cs.toArray] : List Value).flatMap (fun v => v.cells.toList) = cs by simp [Value.cells]] at hfw
  exact hfw
 exact wp_buildSlice t e 1 parts ho cs.toArray i z hu hi hz1 (by rw [hsz]; omega) (by rw [hsz]; omega) hf (h _ _ (Nat.le_refl _) (hst.new ((Fr.refl _ w).alloc _) (Has.new w cs.toArray e) (Nat.le_refl _)))
theorem i0O (hst : St S w0 w bl) (i : Nat) {g : Nat} {L : List Value} {T : TypeId} (hb : bl[i]? = some (g, L, T)) {s x : Operand} {t xt : TypeId} (hgd : o.guard = none) (ho : o.op = .call { callee := .builtin .append, args := #[s, x], argTypes := #[t, xt] })
  {e : TypeId} {k : IntKind} {z : Value} (ht : P.underlying t = some (.slice e)) (hxt : P.underlying xt = some (.int k)) (hi0 : (P.info? e).map (fun i => (i.zero, i.size, i.bytes)) = some (some z, 1, 1)) (hzc : z.cells = #[z]) (hone : z.oneCell' = true) {n m cap : Nat} (hs : a.eval s = .slice (some ⟨g, 0, none⟩) n cap) {kx : IntKind} (hx : a.eval x = .int kx (m : Int))
  (hfit : n + m ≤ cap) (hm : 0 < m) (hm2 : m ≤ 1000000) (hL : n + m ≤ L.length) (L' : List Value) (hL' : splice L n (List.replicate m z) = L')
  (h : ∀ w', St S w0 w' (bl.set i (g, L', T)) → wpList P ops Q rest (a.put o.dst (.slice (some ⟨g, 0, none⟩) (n + m) cap)) w') : wpList P ops Q (o :: rest) a w := by
 refine wpList_plain hgd fun K hK => ?_
 obtain ⟨j, hj, hz, hsize, hby⟩ := info_parts hi0
 obtain ⟨w', hst', hh, hfr, hz2⟩ := c0g (P := P) g n T (List.replicate m z) 0 L w (hst.at i hb) (by simp; omega) (by intro v hv; rw [List.eq_of_mem_replicate hv]; exact hone)
 have hzz : (Builtin.zeroCells z.cells m).toList = List.replicate m z := by
  apply List.ext_getElem?
  intro q
  unfold Builtin.zeroCells
  rw [hzc]
  by_cases hq : q < m
  ·simp [hq, Nat.mod_one]
  ·simp [hq]
 have hwrap : IntKind.i64.wrap (m : Int) = (m : Int) := IntWalk.i64_in _ ap13
 have h1 : ¬ ((m : Int) < 0) := by omega
 have h2 : ¬ ((m : Int) * (1 : Int) > 2 ^ 48) := by omega
 have h2' : ¬ (2 ^ 48 < (m : Int)) := by omega
 have h3 : ¬ (m * 1 = 0) := by omega
 have h3' : m ≠ 0 := by omega
 have h4 : ¬ ((m : Int) ≤ 0) := by omega
 have hr : (Builtin.append_ #[t, xt] o.type #[.slice (some ⟨g, 0, none⟩) n cap, .int kx (m : Int)]).run P w = .ok (.slice (some ⟨g, 0, none⟩) (n + m) cap) w' := by
  simp [Builtin.append_, run_underlying ht, run_underlying hxt, sizeOf, typeInfo, hj, hsize, hby, hwrap, h1, h3', hfit, zeroValue, hz, d0Q, asInt, asIntOf, hzz, hst']
  intro hbig
  omega
 unfold Oper.wp execOp
 simp only [ho, resolve, invoke, builtin, Sem.run_bind, Sem.run_pure, Result.andThen_ok, List.map_toArray, List.map_cons, List.map_nil, hs, hx, hr]
 rw [Nat.add_zero, hL'] at hh
 exact hK _ _ (h w' (hst.put i hb hfr hh))
theorem m0L (hst : St S w0 w bl) (i : Nat) {g : Nat} {L : List Value} {T : TypeId} (hb : bl[i]? = some (g, L, T)) {s x : Operand} {t : TypeId} (ho : o.op = .call { callee := .builtin .append, args := #[s, x], argTypes := #[t, t] })
  {e : TypeId} {z : Value} (ht : P.underlying t = some (.slice e)) (hi0 : (P.info? e).map (fun i => (i.zero, i.size, i.bytes)) = some (some z, 1, 1)) {n m cap c : Nat} (hs : a.eval s = .slice (some ⟨g, 0, none⟩) n cap) {xa : Option Addr} (hx : a.eval x = .slice xa m c) {news : List Value} (hnews : Rd w xa m news) (h1 : ∀ u ∈ news, u.oneCell' = true)
  (hfit : n + m ≤ cap) (hL : n + m ≤ L.length) (L' : List Value) (hL' : splice L n news = L')
  (h : ∀ w', St S w0 w' (bl.set i (g, L', T)) → K (a.put o.dst (.slice (some ⟨g, 0, none⟩) (n + m) cap)) w') : o.wp P a w K Q := by
 obtain ⟨j, hj, hz, hsize, hby⟩ := info_parts hi0
 have hlen := hnews.len
 obtain ⟨w', hr, hh, hfr, -⟩ := e0L (P := P) t o.type e j ht hj g 0 n cap L T (hst.at i hb) xa m c news (by rw [hsize, Nat.mul_one]; exact hnews) h1 hfit (by rw [hsize]; omega)
 rw [hsize, Nat.mul_one, Nat.zero_add, hL'] at hh
 unfold Oper.wp execOp
 simp only [ho, resolve, invoke, builtin, Sem.run_bind, Sem.run_pure, Result.andThen_ok, List.map_toArray, List.map_cons, List.map_nil, hs, hx, hr]
 exact h w' (hst.put i hb hfr hh)
end
end Go.Mv
namespace Go.Proofs.YtmebmhjppmfbbaaGreat
open Go.RowKit Go.Mv Mvp Mvq
theorem w0i (n : Nat) (s : PT) : Tryz.prog.built 144 [(0, i4 n), (1, .agg (tbL s 16).toArray)] = some (tmR (n, s)).toArray := by kernel_rfl
theorem z0r : (Tryz.prog.info? 144).map (fun i => (i.zero, i.size, i.bytes)) = some (some (.agg (List.replicate 196 (.int .u64 0)).toArray), 196, 1568) := by kernel_rfl
theorem z0s (t : Nat × PT) : tmL [t] = tmR t := by
 show (List.range 1).flatMap (fun k => tmR (g0K [t] k)) = tmR t
 simp [List.range_succ, g0K]
attribute [local irreducible] a0E lw mix cw b0o b0x b0l a0L a0q beN b0F b0c b0z a0J a0N elN mdL b0e rtN rtV b0Q gXn gYn PT.L l0r k0V f0v tbL tmR tmL dbN h0H h0q i0N dig
theorem z0t (n : Nat) (s : PT) (gc : Nat) (w : World) (h : Cv w gc) :
  Calls Tryz.prog 83 #[.pointer (some ⟨gc, 0, none⟩), i4 n, .agg s.L.toArray] w fun e w' => e = .returned (.agg (i0N [(n, s)]).L.toArray) ∧ Fr Nob w w' := by
 have HCV := Lib.hid h
 clear h
 have st0 := St.start Nob w
 go_enter Tryz.func83, Tryz.ntmps83
 go_wp2_with (with_reducible refine wSk 4 ?_)
 refine a0l st0 rfl rfl rfl (cw 4 n) rfl ?_
 intro g4 w1 st1
 clear st0
 go_wp2_with (with_reducible refine wSk 5 ?_)
 refine a0l st1 rfl rfl rfl (s.L) rfl ?_
 intro g5 w2 st2
 clear st1
 go_wp2_with (with_reducible refine wSk 6 ?_)
 refine a0a st2 rfl rfl (z := .agg (List.replicate 12 (.int .u64 0)).toArray) ap11 (cw 12 0) ap9 ?_
 intro g6 w3 st3
 clear st2
 go_wp2_with fail
 refine wp_region_noPanic ?_
 refine a0o (fun wx => St Nob w wx [(g4, cw 4 n, 108), (g5, s.L, 114), (g6, cw 12 0, 114)]) 8 (.w 0 (.t 1 (.w 2 (.t 3 (.r 4 (.w 5 (.r 6 (.r 7 (.m 8 .nil))))))))) ap11 ap11 st3.drew (fun _ _ _ _ _ h => h) ?_
 have hd3 := st3.drew
 clear st3
 refine a0k rfl rfl apW ?_
 try simp only [clL]
 refine a0s rfl rfl rfl rfl (cw 4 n) (fun wx hS => St.rangeL hS 0 rfl 0 _ dZl) Tryz.underlying108 rfl (by first | (rw [a0e]; kernel_rfl) | (rw [PT.len]; kernel_rfl) | (rw [b0U]; kernel_rfl) | (rw [c0Z]; kernel_rfl) | (simp only [List.length_append, a0e]; kernel_rfl) | (simp only [List.length_append, a0e, PT.len, b0U, c0Z]; kernel_rfl)) ?_
 try simp only [clL]
 refine a0k rfl rfl apW ?_
 try simp only [clL]
 refine a0s rfl rfl rfl rfl (s.L) (fun wx hS => St.rangeL hS 1 rfl 0 _ dZl) Tryz.underlying114 rfl ap6 ?_
 try simp only [clL]
 refine a0y rfl rfl ?_
 go_simp
 refine (i0M s gc _ (HCV.out.keep hd3.fr)).mono ?_
 rintro e' w4 ⟨rfl, hf4⟩
 have st4 := hd3.keep hf4
 clear hf4
 clear hd3
 refine ⟨st4, ?_⟩
 try simp only [clL]
 refine a0k rfl rfl (b0f rfl _ (w0i _ _)) ?_
 try simp only [clL]
 refine a0y rfl rfl ?_
 refine w0h st4 rfl Tryz.underlying197 z0r (tmR (n, s)) rfl (c0Z _) ap12 ap12 ?_
 intro g13 w5 hg13 st5
 clear hg13
 have HRD := Lib.hid (show Rd w5 (some ⟨g13, 0, none⟩) (([(n, s)] : List (Nat × PT)).length * 196) (tmL [(n, s)]) by rw [z0s]; have h := Rd.whole (st5.at 3 rfl); rw [c0Z] at h; exact h)
 refine ⟨St.less st5 ap14, ?_⟩
 try simp only [clL]
 refine a0y rfl rfl ?_
 go_simp
 refine (B0C [(n, s)] gc (some ⟨g13, 0, none⟩) 1 1 _ (HCV.out.keep st5.fr) rfl ap12 HRD.out).mono ?_
 rintro e' w6 ⟨rfl, hf6⟩
 have st6 := st5.keep hf6
 clear hf6
 clear st5
 refine ⟨St.less st6 ap14, ?_⟩
 try simp only [clL]
 refine a0r rfl rfl ?_
 refine a0h st6 2 rfl rfl rfl rfl (by first | (simp only [a0e]; done) | (simp only [List.length_append, a0e, PT.len, b0U, c0Z]; done)) ap6 (PT.one _) ?_
 intro w7 st7
 clear st6
 try simp only [Act.put]
 refine a0j ?_
 refine NoPanic.normal ?_
 have hr := st7.at 2 rfl
 have hfr := st7.fr
 clear st7
 go_wp2_with fail
 exact bodyPost_ret (a0t rfl rfl hr Tryz.underlying114 rfl ap6) rfl ⟨rfl, hfr⟩
end Go.Proofs.YtmebmhjppmfbbaaGreat


set_option maxHeartbeats 16000000
set_option maxRecDepth 1000000
namespace Go.Proofs.YtmebmhjppmfbbaaGreat
open Go.RowKit Go.Mv Mvp Mvq
theorem p0t (n : Nat) : List.replicate n (Value.int .u8 0) = bs (List.replicate n 0) := by simp [bs]
theorem t0n : splice (bs (List.replicate 33 0)) 1 (List.replicate 32 (Value.int .u8 0)) = bs (List.replicate 33 0) := by rfl
def bb1 (b : Nat) : List Value := bs ([UInt8.ofNat b] ++ List.replicate 32 0)
def bb2 (b X : Nat) : List Value := bs (UInt8.ofNat b :: b0c X)
theorem z0u (b : Nat) : (bb1 b).length = 33 := by unfold bb1; rw [a0M]; simp
theorem t0o (b X : Nat) : (bb2 b X).length = 33 := by unfold bb2; rw [a0M, List.length_cons, b0P]
theorem m0M (b X : Nat) : splice (bb1 b) 1 (bs (b0c X)) = bb2 b X := by
 unfold bb1 bb2
 rw [d0D, j0O _ _ _ 1 (by simp [bs]) (by rw [a0M, a0M, b0P]; rfl), ← d0D]; rfl
theorem t0p (b : Nat) (hb : b < 256) : (bs (List.replicate 33 0)).set 0 (.int .u8 (b : Int)) = bb1 b := by
 unfold bb1
 have h := h0L (List.replicate 33 0) 0 (UInt8.ofNat b)
 rw [show ((UInt8.ofNat b).toNat : Int) = (b : Int) by rw [UInt8.toNat_ofNat']; omega] at h
 rw [h]; rfl
theorem B0D (b : Nat) (h : b = 0 ∨ b = 1) : bits .or .u8 2 (b : Int) = ((2 + b : Nat) : Int) := by
 rcases h with rfl | rfl <;> decide
attribute [local irreducible] a0E lw mix cw b0o b0x b0l a0L a0q beN b0F b0c b0z a0J a0N elN mdL b0e rtN rtV b0Q gXn gYn bb1 bb2
theorem q0W (m : Md) (gc gp bx by_ : Nat) (w : World) (hok : m.Ok) (hcv : Has w gc (f0C m gp bx by_) 122) (hpm : Has w gp (mdL m) 185) (x y z : Nat) (hb : (z % m.M == 0) = true) :
  Calls Tryz.prog 84 #[.pointer (some ⟨gc, 0, none⟩), ptV m x y z] w fun e w' => ∃ sv, e = .returned sv ∧ Own w' w.heap.size 5 1 sv 33 (bs (List.replicate 33 0)) ∧ Fr Nob w w' := by
 have HOK := Lib.hid hok
 have HCV := Lib.hid hcv
 have HPM := Lib.hid hpm
 clear hok hcv hpm
 have HB := Lib.hid hb
 clear hb
 unfold ptV ptL
 have st0 := St.start Nob w
 go_enter Tryz.func84, Tryz.ntmps84
 go_wp2_with (with_reducible refine wSk 3 ?_)
 refine a0l st0 rfl rfl rfl (cw 4 (elN m x) ++ (cw 4 (elN m y) ++ cw 4 (elN m z))) rfl ?_
 intro g3 w1 st1
 clear st0
 go_wp2_with (with_reducible refine wSk 9 ?_)
 refine b0X rfl rfl Tryz.underlying22 b0y rfl rfl rfl 1 33 ap14 ap14 ap13 ap13 ap8 ?_
 intro w2 hg2 hf2 hz2
 clear hz2
 have st2 := st1.new hf2 hg2 (Nat.le_refl _)
 have hb2 := st1.fr.size
 skip
 clear st1 hg2 hf2
 generalize w1.heap.size = gb at *
 have HBB := Lib.hid hb2
 clear hb2
 rw [p0t] at st2
 go_wp2_with (with_reducible refine wSk 10 ?_)
 refine a0m st2 0 rfl rfl rfl Tryz.underlying114 rfl rfl ap4 ?_
 go_wp2_with fail
 refine (d0v m HOK.out x y z true HB.out _).mono ?_
 rintro e' w3 ⟨rfl, hf3⟩
 have st3 := st2.keep hf3
 clear st2 hf3
 go_wp2_with (with_reducible refine wSk 13 ?_)
 refine i0O st3 1 rfl rfl rfl Tryz.underlying22 Tryz.underlying3 b0y rfl rfl (n := 1) (m := 32) (cap := 33) rfl rfl ap12 ap12 ap12 (by rw [a0M, List.length_replicate]; decide) (bs (List.replicate 33 0)) t0n ?_
 intro w4 st4
 clear st3
 have hown : Own w4 w.heap.size 5 1 (.slice (some ⟨gb, 0, none⟩) 33 33) 33 (bs (List.replicate 33 0)) := by
  have h := st4.at 1 rfl
  exact Own.made h w.heap.size HBB.out 1 33 33 (Nat.le_refl _) ap8 ap12
 have hfr := st4.fr
 clear st4
 go_wp2_with fail
 go_ret
 exact ⟨_, rfl, hown, hfr⟩
theorem x0K (m : Md) (gp : Nat) (w : World) (hok : m.Ok) (hpm : Has w gp (mdL m) 185) (x r : Nat) (hr : x ^ (m.M - 2) = r) :
  Calls Tryz.prog 146 #[.pointer (some ⟨gp, 0, none⟩), i4 (elN m x)] w fun e w' => e = .returned (i4 (elN m r)) ∧ Fr Nob w w' := by
 subst hr; exact v0z m gp w hok hpm x
theorem i0P (m : Md) (gp : Nat) (w : World) (hok : m.Ok) (hpm : Has w gp (mdL m) 185) (x r : Nat) (hr : x % m.M = r) :
  Calls Tryz.prog 113 #[.pointer (some ⟨gp, 0, none⟩), i4 (elN m x)] w fun e w' => e = .returned (i4 r) ∧ Fr Nob w w' := by
 subst hr; exact e0Z m gp w hok hpm x
theorem z0v (m : Md) (gc gp bx by_ : Nat) (w : World) (hok : m.Ok) (hcv : Has w gc (f0C m gp bx by_) 122) (hpm : Has w gp (mdL m) 185) (x y z : Nat) (hb : (z % m.M == 0) = false) (i ii i3 yy v xx u : Nat) (ei : z ^ (m.M - 2) = i) (eii : i * i = ii) (ei3 : ii * i = i3) (eyy : y * i3 = yy) (ev : yy % m.M = v) (exx : x * ii = xx) (eu : xx % m.M = u) :
  Calls Tryz.prog 84 #[.pointer (some ⟨gc, 0, none⟩), ptV m x y z] w fun e w' => ∃ sv, e = .returned sv ∧ Own w' w.heap.size 5 1 sv 33 (bs (UInt8.ofNat (2 + v % 2) :: b0c u)) ∧ Fr Nob w w' := by
 have HOK := Lib.hid hok
 have HCV := Lib.hid hcv
 have HPM := Lib.hid hpm
 clear hok hcv hpm
 have HB := Lib.hid hb
 have Hi := Lib.hid ei
 have Hii := Lib.hid eii
 have Hi3 := Lib.hid ei3
 have Hyy := Lib.hid eyy
 have Hv := Lib.hid ev
 have Hxx := Lib.hid exx
 have Hu := Lib.hid eu
 clear hb ei eii ei3 eyy ev exx eu
 unfold ptV ptL
 have st0 := St.start Nob w
 go_enter Tryz.func84, Tryz.ntmps84
 go_wp2_with (with_reducible refine wSk 3 ?_)
 refine a0l st0 rfl rfl rfl (cw 4 (elN m x) ++ (cw 4 (elN m y) ++ cw 4 (elN m z))) rfl ?_
 intro g3 w1 st1
 clear st0
 go_wp2_with (with_reducible refine wSk 9 ?_)
 refine b0X rfl rfl Tryz.underlying22 b0y rfl rfl rfl 1 33 ap14 ap14 ap13 ap13 ap8 ?_
 intro w2 hg2 hf2 hz2
 clear hz2
 have st2 := st1.new hf2 hg2 (Nat.le_refl _)
 have hb2 := st1.fr.size
 skip
 clear st1 hg2 hf2
 generalize w1.heap.size = gb at *
 have HBB := Lib.hid hb2
 clear hb2
 rw [p0t] at st2
 go_wp2_with (with_reducible refine wSk 10 ?_)
 refine a0m st2 0 rfl rfl rfl Tryz.underlying114 rfl rfl ap4 ?_
 go_wp2_with fail
 refine (d0v m HOK.out x y z false HB.out _).mono ?_
 rintro e' w3 ⟨rfl, hf3⟩
 have st3 := st2.keep hf3
 clear st2 hf3
 go_wp2_with fail
 refine wp_region_noPanic ?_
 refine a0o (fun wx => St Nob w wx [(g3, cw 4 (elN m x) ++ (cw 4 (elN m y) ++ cw 4 (elN m z)), 114), (gb, bs (List.replicate 33 0), 5)]) 8 (.w 0 (.w 1 (.w 2 (.t 3 (.w 4 (.t 5 (.b 6 7 (.r 7 (.m 8 .nil)) (.r 6 (.m 8 .nil))))))))) ap11 ap11 st3.drew (fun _ _ _ _ _ h => h) ?_
 have hd3 := st3.drew
 clear st3
 refine a0k rfl rfl apW ?_
 try simp only [clL]
 refine a0k rfl rfl apW ?_
 try simp only [clL]
 refine a0k rfl rfl apW ?_
 try simp only [clL]
 refine d0T (v := ?_) rfl rfl (fun wx hS => ?_) ?_
 rotate_left 1
 ·(have hc := (HCV.out.keep (St.fr hS) id).cell (i := 0) rfl; clear hS; go_simp; with_reducible rfl)
 try simp only [clL]
 refine a0k rfl rfl apW ?_
 try simp only [clL]
 refine a0s rfl rfl rfl rfl (cw 4 (elN m z)) (fun wx hS => St.rangeL hS 0 rfl 8 _ (f0c _ _ _)) Tryz.underlying59 rfl ap4 ?_
 try simp only [clL]
 refine e0Y (C := fun g6 wz => St Nob w wz [(g3, cw 4 (elN m x) ++ (cw 4 (elN m y) ++ cw 4 (elN m z)), 114), (gb, bs (List.replicate 33 0), 5), (g6, cw 4 (elN m i), 59)]) (F := ?_) (fun key => ?_) ?_
 rotate_left 1
 ·skip
  refine e0B rfl rfl rfl rfl ?_ ?_
  ·skip
   go_simp
   refine (x0K m gp _ HOK.out (HPM.out.keep hd3.fr id) z i Hi.out).mono ?_
   rintro e' w4 ⟨rfl, hf4⟩
   have st4 := hd3.keep hf4
   clear hf4
   refine ⟨st4, ?_⟩
   try simp only [clL]
   refine a0y rfl rfl ?_
   refine b0k st4 rfl (z := zAd) ap11 (cw 4 0) ap9 ?_
   intro g6 w5 st5
   refine ⟨St.less st5 ap14, ?_⟩
   try simp only [clL]
   refine a0r rfl rfl ?_
   refine a0h st5 2 rfl rfl rfl rfl ap5 ap4 (a0g _ _) ?_
   intro w6 st6
   try simp only [Act.put]
   refine a0j ?_
   exact key g6 _ st6
  ·skip
   refine b0k hd3 rfl (z := zAd) ap11 (cw 4 0) ap9 ?_
   intro g6 w7 st7
   refine ⟨St.less st7 ap14, ?_⟩
   try simp only [clL]
   refine a0y rfl rfl ?_
   go_simp
   refine (x0K m gp _ HOK.out (HPM.out.keep st7.fr id) z i Hi.out).mono ?_
   rintro e' w8 ⟨rfl, hf8⟩
   have st8 := st7.keep hf8
   clear hf8
   refine ⟨St.less st8 ap14, ?_⟩
   try simp only [clL]
   refine a0r rfl rfl ?_
   refine a0h st8 2 rfl rfl rfl rfl ap5 ap4 (a0g _ _) ?_
   intro w9 st9
   try simp only [Act.put]
   refine a0j ?_
   exact key g6 _ st9
 intro g6 w10 st10
 have st10 : St Nob w w10 [(g3, cw 4 (elN m x) ++ (cw 4 (elN m y) ++ cw 4 (elN m z)), 114), (gb, bs (List.replicate 33 0), 5), (g6, cw 4 (elN m i), 59)] := st10
 clear hd3
 refine NoPanic.normal ?_
 go_wp2_with fail
 refine wp_region_noPanic ?_
 refine a0o (fun wx => St Nob w wx [(g3, cw 4 (elN m x) ++ (cw 4 (elN m y) ++ cw 4 (elN m z)), 114), (gb, bs (List.replicate 33 0), 5), (g6, cw 4 (elN m i), 59)]) 7 (.w 0 (.w 1 (.w 2 (.t 3 (.t 4 (.b 5 6 (.r 6 (.m 7 .nil)) (.r 5 (.m 7 .nil)))))))) ap11 ap11 st10.drew (fun _ _ _ _ _ h => h) ?_
 have hd10 := st10.drew
 clear st10
 refine a0k rfl rfl apW ?_
 try simp only [clL]
 refine a0k rfl rfl apW ?_
 try simp only [clL]
 refine a0k rfl rfl apW ?_
 try simp only [clL]
 refine d0T (v := ?_) rfl rfl (fun wx hS => ?_) ?_
 rotate_left 1
 ·(have hc := (HCV.out.keep (St.fr hS) id).cell (i := 0) rfl; clear hS; go_simp; with_reducible rfl)
 try simp only [clL]
 refine a0s rfl rfl rfl rfl (cw 4 (elN m i)) (fun wx hS => St.rangeL hS 2 rfl 0 _ dZl) Tryz.underlying59 rfl ap4 ?_
 try simp only [clL]
 refine e0Y (C := fun g7 wz => St Nob w wz [(g3, cw 4 (elN m x) ++ (cw 4 (elN m y) ++ cw 4 (elN m z)), 114), (gb, bs (List.replicate 33 0), 5), (g6, cw 4 (elN m i), 59), (g7, cw 4 (elN m ii), 59)]) (F := ?_) (fun key => ?_) ?_
 rotate_left 1
 ·skip
  refine e0B rfl rfl rfl rfl ?_ ?_
  ·skip
   go_simp
   refine (b0S m gp _ HOK.out (HPM.out.keep hd10.fr id) i ii Hii.out).mono ?_
   rintro e' w11 ⟨rfl, hf11⟩
   have st11 := hd10.keep hf11
   clear hf11
   refine ⟨st11, ?_⟩
   try simp only [clL]
   refine a0y rfl rfl ?_
   refine b0k st11 rfl (z := zAd) ap11 (cw 4 0) ap9 ?_
   intro g7 w12 st12
   refine ⟨St.less st12 ap14, ?_⟩
   try simp only [clL]
   refine a0r rfl rfl ?_
   refine a0h st12 3 rfl rfl rfl rfl ap5 ap4 (a0g _ _) ?_
   intro w13 st13
   try simp only [Act.put]
   refine a0j ?_
   exact key g7 _ st13
  ·skip
   refine b0k hd10 rfl (z := zAd) ap11 (cw 4 0) ap9 ?_
   intro g7 w14 st14
   refine ⟨St.less st14 ap14, ?_⟩
   try simp only [clL]
   refine a0y rfl rfl ?_
   go_simp
   refine (b0S m gp _ HOK.out (HPM.out.keep st14.fr id) i ii Hii.out).mono ?_
   rintro e' w15 ⟨rfl, hf15⟩
   have st15 := st14.keep hf15
   clear hf15
   refine ⟨St.less st15 ap14, ?_⟩
   try simp only [clL]
   refine a0r rfl rfl ?_
   refine a0h st15 3 rfl rfl rfl rfl ap5 ap4 (a0g _ _) ?_
   intro w16 st16
   try simp only [Act.put]
   refine a0j ?_
   exact key g7 _ st16
 intro g7 w17 st17
 have st17 : St Nob w w17 [(g3, cw 4 (elN m x) ++ (cw 4 (elN m y) ++ cw 4 (elN m z)), 114), (gb, bs (List.replicate 33 0), 5), (g6, cw 4 (elN m i), 59), (g7, cw 4 (elN m ii), 59)] := st17
 clear hd10
 refine NoPanic.normal ?_
 go_wp2_with fail
 refine wp_region_noPanic ?_
 refine a0o (fun wx => St Nob w wx [(g3, cw 4 (elN m x) ++ (cw 4 (elN m y) ++ cw 4 (elN m z)), 114), (gb, bs (List.replicate 33 0), 5), (g6, cw 4 (elN m i), 59), (g7, cw 4 (elN m ii), 59)]) 20 (.w 0 (.w 1 (.w 2 (.t 3 (.w 4 (.w 5 (.w 6 (.t 7 (.w 8 (.t 9 (.w 10 (.w 11 (.w 12 (.t 13 (.t 14 (.t 15 (.b 16 19 (.b 17 19 (.b 18 19 (.r 19 (.m 20 .nil)) (.r 18 (.m 20 .nil))) (.r 17 (.r 18 (.m 20 .nil)))) (.r 16 (.r 17 (.r 18 (.m 20 .nil))))))))))))))))))))) ap11 ap11 st17.drew (fun _ _ _ _ _ h => h) ?_
 have hd17 := st17.drew
 clear st17
 refine a0k rfl rfl apW ?_
 try simp only [clL]
 refine a0k rfl rfl apW ?_
 try simp only [clL]
 refine a0k rfl rfl apW ?_
 try simp only [clL]
 refine d0T (v := ?_) rfl rfl (fun wx hS => ?_) ?_
 rotate_left 1
 ·(have hc := (HCV.out.keep (St.fr hS) id).cell (i := 0) rfl; clear hS; go_simp; with_reducible rfl)
 try simp only [clL]
 refine a0k rfl rfl apW ?_
 try simp only [clL]
 refine a0k rfl rfl apW ?_
 try simp only [clL]
 refine a0k rfl rfl apW ?_
 try simp only [clL]
 refine d0T (v := ?_) rfl rfl (fun wx hS => ?_) ?_
 rotate_left 1
 ·(have hc := (HCV.out.keep (St.fr hS) id).cell (i := 0) rfl; clear hS; go_simp; with_reducible rfl)
 try simp only [clL]
 refine a0k rfl rfl apW ?_
 try simp only [clL]
 refine a0s rfl rfl rfl rfl (cw 4 (elN m y)) (fun wx hS => St.rangeL hS 0 rfl 4 _ (l0q _ _ _)) Tryz.underlying59 rfl ap4 ?_
 try simp only [clL]
 refine a0k rfl rfl apW ?_
 try simp only [clL]
 refine a0k rfl rfl apW ?_
 try simp only [clL]
 refine a0k rfl rfl apW ?_
 try simp only [clL]
 refine d0T (v := ?_) rfl rfl (fun wx hS => ?_) ?_
 rotate_left 1
 ·(have hc := (HCV.out.keep (St.fr hS) id).cell (i := 0) rfl; clear hS; go_simp; with_reducible rfl)
 try simp only [clL]
 refine a0s rfl rfl rfl rfl (cw 4 (elN m ii)) (fun wx hS => St.rangeL hS 3 rfl 0 _ dZl) Tryz.underlying59 rfl ap4 ?_
 try simp only [clL]
 refine a0s rfl rfl rfl rfl (cw 4 (elN m i)) (fun wx hS => St.rangeL hS 2 rfl 0 _ dZl) Tryz.underlying59 rfl ap4 ?_
 try simp only [clL]
 refine e0Y (C := fun g8 wz => St Nob w wz [(g3, cw 4 (elN m x) ++ (cw 4 (elN m y) ++ cw 4 (elN m z)), 114), (gb, bs (List.replicate 33 0), 5), (g6, cw 4 (elN m i), 59), (g7, cw 4 (elN m ii), 59), (g8, cw 4 v, 108)]) (F := ?_) (fun key => ?_) ?_
 rotate_left 1
 ·skip
  refine e0B rfl rfl rfl rfl ?_ ?_
  ·skip
   go_simp
   refine (c0t m gp _ HOK.out (HPM.out.keep hd17.fr id) ii i i3 Hi3.out).mono ?_
   rintro e' w18 ⟨rfl, hf18⟩
   have st18 := hd17.keep hf18
   clear hf18
   refine ⟨st18, ?_⟩
   try simp only [clL]
   refine e0B rfl rfl rfl rfl ?_ ?_
   ·skip
    go_simp
    refine (c0t m gp _ HOK.out (HPM.out.keep st18.fr id) y i3 yy Hyy.out).mono ?_
    rintro e' w19 ⟨rfl, hf19⟩
    have st19 := st18.keep hf19
    clear hf19
    refine ⟨st19, ?_⟩
    try simp only [clL]
    refine e0B rfl rfl rfl rfl ?_ ?_
    ·skip
     go_simp
     refine (i0P m gp _ HOK.out (HPM.out.keep st19.fr id) yy v Hv.out).mono ?_
     rintro e' w20 ⟨rfl, hf20⟩
     have st20 := st19.keep hf20
     clear hf20
     refine ⟨st20, ?_⟩
     try simp only [clL]
     refine a0y rfl rfl ?_
     refine b0k st20 rfl (z := zAd) ap11 (cw 4 0) ap9 ?_
     intro g8 w21 st21
     refine ⟨St.less st21 ap14, ?_⟩
     try simp only [clL]
     refine a0r rfl rfl ?_
     refine a0h st21 4 rfl rfl rfl rfl ap5 ap4 (a0g _ _) ?_
     intro w22 st22
     try simp only [Act.put]
     refine a0j ?_
     exact key g8 _ st22
    ·skip
     refine b0k st19 rfl (z := zAd) ap11 (cw 4 0) ap9 ?_
     intro g8 w23 st23
     refine ⟨St.less st23 ap14, ?_⟩
     try simp only [clL]
     refine a0y rfl rfl ?_
     go_simp
     refine (i0P m gp _ HOK.out (HPM.out.keep st23.fr id) yy v Hv.out).mono ?_
     rintro e' w24 ⟨rfl, hf24⟩
     have st24 := st23.keep hf24
     clear hf24
     refine ⟨St.less st24 ap14, ?_⟩
     try simp only [clL]
     refine a0r rfl rfl ?_
     refine a0h st24 4 rfl rfl rfl rfl ap5 ap4 (a0g _ _) ?_
     intro w25 st25
     try simp only [Act.put]
     refine a0j ?_
     exact key g8 _ st25
   ·skip
    refine b0k st18 rfl (z := zAd) ap11 (cw 4 0) ap9 ?_
    intro g8 w26 st26
    refine ⟨St.less st26 ap14, ?_⟩
    try simp only [clL]
    refine a0y rfl rfl ?_
    go_simp
    refine (c0t m gp _ HOK.out (HPM.out.keep st26.fr id) y i3 yy Hyy.out).mono ?_
    rintro e' w27 ⟨rfl, hf27⟩
    have st27 := st26.keep hf27
    clear hf27
    refine ⟨St.less st27 ap14, ?_⟩
    try simp only [clL]
    refine a0y rfl rfl ?_
    go_simp
    refine (i0P m gp _ HOK.out (HPM.out.keep st27.fr id) yy v Hv.out).mono ?_
    rintro e' w28 ⟨rfl, hf28⟩
    have st28 := st27.keep hf28
    clear hf28
    refine ⟨St.less st28 ap14, ?_⟩
    try simp only [clL]
    refine a0r rfl rfl ?_
    refine a0h st28 4 rfl rfl rfl rfl ap5 ap4 (a0g _ _) ?_
    intro w29 st29
    try simp only [Act.put]
    refine a0j ?_
    exact key g8 _ st29
  ·skip
   refine b0k hd17 rfl (z := zAd) ap11 (cw 4 0) ap9 ?_
   intro g8 w30 st30
   refine ⟨St.less st30 ap14, ?_⟩
   try simp only [clL]
   refine a0y rfl rfl ?_
   go_simp
   refine (c0t m gp _ HOK.out (HPM.out.keep st30.fr id) ii i i3 Hi3.out).mono ?_
   rintro e' w31 ⟨rfl, hf31⟩
   have st31 := st30.keep hf31
   clear hf31
   refine ⟨St.less st31 ap14, ?_⟩
   try simp only [clL]
   refine a0y rfl rfl ?_
   go_simp
   refine (c0t m gp _ HOK.out (HPM.out.keep st31.fr id) y i3 yy Hyy.out).mono ?_
   rintro e' w32 ⟨rfl, hf32⟩
   have st32 := st31.keep hf32
   clear hf32
   refine ⟨St.less st32 ap14, ?_⟩
   try simp only [clL]
   refine a0y rfl rfl ?_
   go_simp
   refine (i0P m gp _ HOK.out (HPM.out.keep st32.fr id) yy v Hv.out).mono ?_
   rintro e' w33 ⟨rfl, hf33⟩
   have st33 := st32.keep hf33
   clear hf33
   refine ⟨St.less st33 ap14, ?_⟩
   try simp only [clL]
   refine a0r rfl rfl ?_
   refine a0h st33 4 rfl rfl rfl rfl ap5 ap4 (a0g _ _) ?_
   intro w34 st34
   try simp only [Act.put]
   refine a0j ?_
   exact key g8 _ st34
 intro g8 w35 st35
 have st35 : St Nob w w35 [(g3, cw 4 (elN m x) ++ (cw 4 (elN m y) ++ cw 4 (elN m z)), 114), (gb, bs (List.replicate 33 0), 5), (g6, cw 4 (elN m i), 59), (g7, cw 4 (elN m ii), 59), (g8, cw 4 v, 108)] := st35
 clear hd17
 refine NoPanic.normal ?_
 have c1 := (st35.at 4 rfl).cell (a0D 4 v 0 ap12)
 obtain ⟨v3, c3, f3⟩ := (st35.at 1 rfl).ready (i := 0) (by rw [a0M, List.length_replicate]; decide)
 have ha := i0A v
 have hb2 : v % 2 = 0 ∨ v % 2 = 1 := by omega
 generalize hbv : v % 2 = b at *
 have HBV := Lib.hid hbv
 clear hbv
 have ho := B0D b hb2
 have hw8 : IntKind.u8.wrap (b : Int) = (b : Int) := by rcases hb2 with rfl | rfl <;> decide
 have hst2 := st35.set 1 rfl 0 (.int .u8 ((2 + b : Nat) : Int))
 rw [t0p (2 + b) ap13] at hst2
 have hw16 : IntKind.u8.wrap ((2 + b : Nat) : Int) = ((2 + b : Nat) : Int) := by rcases hb2 with rfl | rfl <;> decide
 have HB2 := Lib.hid hb2
 clear hb2
 go_wp2_with fail
 have st36 : St Nob w _ [(g3, cw 4 (elN m x) ++ (cw 4 (elN m y) ++ cw 4 (elN m z)), 114), (gb, bb1 (2 + b), 5), (g6, cw 4 (elN m i), 59), (g7, cw 4 (elN m ii), 59), (g8, cw 4 v, 108)] := hst2
 clear st35 hst2 c1 c3 f3 ha ho hw8 hw16
 go_wp2_with fail
 refine wp_region_noPanic ?_
 refine a0o (fun wx => St Nob w wx [(g3, cw 4 (elN m x) ++ (cw 4 (elN m y) ++ cw 4 (elN m z)), 114), (gb, bb1 (2 + b), 5), (g6, cw 4 (elN m i), 59), (g7, cw 4 (elN m ii), 59), (g8, cw 4 v, 108)]) 15 (.w 0 (.w 1 (.w 2 (.w 3 (.t 4 (.w 5 (.w 6 (.w 7 (.t 8 (.w 9 (.t 10 (.t 11 (.r 12 (.r 13 (.r 14 (.m 15 (.w 16 .nil))))))))))))))))) ap11 ap11 st36.drew (fun _ _ _ _ _ h => h) ?_
 have hd36 := st36.drew
 clear st36
 refine a0k rfl rfl apW ?_
 try simp only [clL]
 refine a0k rfl rfl apW ?_
 try simp only [clL]
 refine a0k rfl rfl apW ?_
 try simp only [clL]
 refine a0k rfl rfl apW ?_
 try simp only [clL]
 refine d0T (v := ?_) rfl rfl (fun wx hS => ?_) ?_
 rotate_left 1
 ·(have hc := (HCV.out.keep (St.fr hS) id).cell (i := 0) rfl; clear hS; go_simp; with_reducible rfl)
 try simp only [clL]
 refine a0k rfl rfl apW ?_
 try simp only [clL]
 refine a0k rfl rfl apW ?_
 try simp only [clL]
 refine a0k rfl rfl apW ?_
 try simp only [clL]
 refine d0T (v := ?_) rfl rfl (fun wx hS => ?_) ?_
 rotate_left 1
 ·(have hc := (HCV.out.keep (St.fr hS) id).cell (i := 0) rfl; clear hS; go_simp; with_reducible rfl)
 try simp only [clL]
 refine a0k rfl rfl apW ?_
 try simp only [clL]
 refine a0s rfl rfl rfl rfl (cw 4 (elN m x)) (fun wx hS => St.rangeL hS 0 rfl 0 _ (i0Z _ _ _)) Tryz.underlying59 rfl ap4 ?_
 try simp only [clL]
 refine a0s rfl rfl rfl rfl (cw 4 (elN m ii)) (fun wx hS => St.rangeL hS 3 rfl 0 _ dZl) Tryz.underlying59 rfl ap4 ?_
 try simp only [clL]
 refine a0y rfl rfl ?_
 go_simp
 refine (c0t m gp _ HOK.out (HPM.out.keep hd36.fr id) x ii xx Hxx.out).mono ?_
 rintro e' w37 ⟨rfl, hf37⟩
 have st37 := hd36.keep hf37
 clear hf37
 clear hd36
 refine ⟨st37, ?_⟩
 try simp only [clL]
 refine a0y rfl rfl ?_
 go_simp
 refine (i0P m gp _ HOK.out (HPM.out.keep st37.fr id) xx u Hu.out).mono ?_
 rintro e' w38 ⟨rfl, hf38⟩
 have st38 := st37.keep hf38
 clear hf38
 clear st37
 refine ⟨st38, ?_⟩
 try simp only [clL]
 refine a0y rfl rfl ?_
 go_simp
 refine (j0C u _).mono ?_
 rintro e' w39 ⟨vb, rfl, hownb, hf39⟩
 have st39 := st38.keep hf39
 obtain ⟨va, vc, rfl, -, hrd, -⟩ := hownb.form
 clear hownb
 clear hf39
 clear st38
 refine ⟨st39, ?_⟩
 try simp only [clL]
 refine a0r rfl rfl ?_
 refine m0L st39 1 rfl rfl Tryz.underlying22 b0y (n := 1) (m := 32) (cap := 33) rfl rfl hrd (j0n _) ap12 (by have := z0u (2 + b); omega) (bb2 (2 + b) u) (m0M _ _) ?_
 intro w40 st40
 have st40 : St Nob w w40 [(g3, cw 4 (elN m x) ++ (cw 4 (elN m y) ++ cw 4 (elN m z)), 114), (gb, bb2 (2 + b) u, 5), (g6, cw 4 (elN m i), 59), (g7, cw 4 (elN m ii), 59), (g8, cw 4 v, 108)] := st40
 clear st39 hrd
 try simp only [clL]
 refine a0k rfl rfl apW ?_
 try simp only [clL]
 refine a0j ?_
 refine NoPanic.normal ?_
 have hown : Own w40 w.heap.size 5 1 (.slice (some ⟨gb, 0, none⟩) 33 33) 33 (bb2 (2 + b) u) := by
  have h := st40.at 1 rfl
  have h2 := Own.made h w.heap.size HBB.out 1 33 33 (Nat.le_refl _) ap8 (by have := t0o (2 + b) u; omega)
  rwa [List.take_of_length_le (by have := t0o (2 + b) u; omega)] at h2
 have hfr := st40.fr
 clear st40
 go_wp2_with fail
 go_ret
 exact ⟨_, rfl, by rw [HBV.out]; unfold bb2 at hown; exact hown, hfr⟩
end Go.Proofs.YtmebmhjppmfbbaaGreat


set_option maxHeartbeats 16000000
set_option maxRecDepth 1000000
namespace Go.Mv
open Go.RowKit
section
variable {P : Program} {ops : Array Oper} {md : Region.Mode} {Q : Exit → Act → World → Prop} {S : World → Prop} {m : Nat}
def b0H (P : Program) (ops : Array Oper) (Q : Exit → Act → World → Prop) (S : World → Prop) : Pl → Act → World → Prop
 | .nil, a, w => Q .normal a w
 | .w i s, a, w => ∃ o v, ops[i]? = some o ∧ YieldsIf P ops (fun _ => True) o v a ∧ b0H P ops Q S s (a.put o.dst v) w
 | .t i s, a, w => ∃ o v, ops[i]? = some o ∧ YieldsIf P ops S o v a ∧ b0H P ops Q S s (a.put o.dst v) w
 | .r i s, a, w => wpOp P ops Q i (fun a' w' => S w' ∧ b0H P ops Q S s a' w') a w
 | .m i s, a, w => wpOp P ops Q i (fun a' w' => b0H P ops Q S s a' w') a w
 | .b _ _ _ _, _, _ => False
 | .c _ _ _ _ _ _, _, _ => False
theorem d0i (hsel : Region.noSelect ops = true) (hm : m < ops.size) (hQ : ∀ c (d : Option Tmp) v a w, Q (.panic c) (Act.put a d v) w → Q (.panic c) a w) :
  ∀ (s : Pl) (listed : Array Bool) (a : Act) (w : World), Cl md ops listed → b0W md ops m s listed = true → (listed.getD m true = false → S w) → b0H P ops Q S s a w → wpP P md ops Q S m s.len listed a w
 | .nil, listed, a, w, _, hB, _, h => ⟨by simpa [b0W] using hB, h⟩
 | .w i r, listed, a, w, inv, hB, hS, h => by
  obtain ⟨o, v, ho, hy, hK⟩ := h
  simp only [b0W, Bool.and_eq_true, decide_eq_true_eq] at hB
  obtain ⟨⟨⟨him, hr⟩, hf⟩, hB'⟩ := hB
  have hr' : i ∈ Region.ready md ops listed := by simpa using hr
  exact g0r ho (Region.noSelect_spec hsel) (fun c a w => hQ c o.dst v a w) him hm r.len listed a w inv (Region.free_spec ho hf) hr' hy hS
   (d0i hsel hm hQ r _ _ w (inv.set hr') hB' (fun h => hS (by rwa [getD_set_ne true him] at h)) hK)
 | .t i r, listed, a, w, inv, hB, hS, h => by
  obtain ⟨o, v, ho, hy, hK⟩ := h
  simp only [b0W, Bool.and_eq_true, decide_eq_true_eq] at hB
  obtain ⟨⟨⟨⟨⟨him, hml⟩, hr⟩, hf⟩, han⟩, hB'⟩ := hB
  have hr' : i ∈ Region.ready md ops listed := by simpa using hr
  exact i0x ho (Region.noSelect_spec hsel) (fun c a w => hQ c o.dst v a w) him han r.len listed a w inv hml (Region.free_spec ho hf) hr' hy (hS hml)
   (d0i hsel hm hQ r _ _ w (inv.set hr') hB' (fun _ => hS hml) hK)
 | .r i r, listed, a, w, inv, hB, hS, h => by
  simp only [b0W, Bool.and_eq_true, decide_eq_true_eq] at hB
  obtain ⟨⟨⟨him, hml⟩, hr⟩, hB'⟩ := hB
  have hr' : i ∈ Region.ready md ops listed := by rw [hr]; simp
  refine ⟨fun h0 => (by rw [hr] at h0; cases h0), fun j hj => ?_⟩
  rw [hr] at hj
  have hj' : j = i := by simpa using hj
  subst hj'
  exact wpOp_mono (fun a' w' h' => ⟨fun _ _ => h'.1, d0i hsel hm hQ r _ a' w' (inv.set hr') hB' (fun _ => h'.1) h'.2⟩) h
 | .m i r, listed, a, w, inv, hB, hS, h => by
  simp only [b0W, Bool.and_eq_true, Bool.or_eq_true, decide_eq_true_eq] at hB
  obtain ⟨⟨him, hr⟩, hB'⟩ := hB
  have hr' : i ∈ Region.ready md ops listed := by rw [hr]; simp
  refine ⟨fun h0 => (by rw [hr] at h0; cases h0), fun j hj => ?_⟩
  rw [hr] at hj
  have hj' : j = i := by simpa using hj
  subst hj'
  have hml : (listed.setIfInBounds j true).getD m true = true := by
   rcases him with e | e
   ·subst e; exact b0L (by rw [inv.size]; exact hm)
   ·by_cases e2 : j = m
    ·subst e2; exact b0L (by rw [inv.size]; exact hm)
    ·rw [getD_set_ne true e2]; exact e
  refine wpOp_mono (fun a' w' h' => ⟨fun h1 h2 => ?_, d0i hsel hm hQ r _ a' w' (inv.set hr') hB' (fun h1 => by rw [hml] at h1; cases h1) h'⟩) h
  rcases him with e | e
  ·exact absurd e h2
  ·rw [e] at h1; cases h1
 | .b _ _ _ _, _, _, _, _, _, _, h => h.elim
 | .c _ _ _ _ _ _, _, _, _, _, _, _, h => h.elim
theorem b0d {id : Nat} {a : Act} {w : World} {l : List Oper} (S : World → Prop) (m : Nat) (s : Pl) (hm : P.follows .mixedOrders = true) (hB : k0K l.toArray m s = true)
  (hS : S w.drew) (hQ : ∀ c (d : Option Tmp) v a w, Q (.panic c) (Act.put a d v) w → Q (.panic c) a w)
  (h : b0H P l.toArray Q S s a w.drew) : (Code.region id l.toArray true).wp P Q a w := by
 simp only [k0K, Bool.and_eq_true, decide_eq_true_eq] at hB
 obtain ⟨⟨⟨hsel, hms⟩, hlen⟩, hseq⟩ := hB
 have inv0 : Cl .any l.toArray (Array.replicate l.toArray.size false) :=
  ⟨by simp, fun j oj _ hl => (by rw [getD_replicate_false] at hl; cases hl)⟩
 have H := d0i (md := .any) hsel hms hQ s _ a w.drew inv0 hseq (fun _ => hS) h
 rw [hlen] at H
 exact wp_region_any hm (d0C _ _ _ _ H)
variable {l : List Oper} {i : Nat} {s : Pl} {a : Act} {w : World} {o : Oper}
theorem c0R (h : Q .normal a w) : b0H P ops Q S .nil a w := h
theorem a0n (ho : l[i]? = some o) (hg : Region.wanted o (yielded l.toArray a.tmps) = true) {v : Value} (hv : ∀ wx, (execOp a.eval o).run P wx = .ok (.value v) wx) (h : b0H P l.toArray Q S s (a.put o.dst v) w) : b0H P l.toArray Q S (.w i s) a w :=
 ⟨o, v, by simpa using ho, .inl ⟨hg, fun wx _ => hv wx⟩, h⟩
theorem a0Y (ho : l[i]? = some o) (hg : Region.wanted o (yielded l.toArray a.tmps) = false) (h : b0H P l.toArray Q S s (a.put o.dst undef) w) : b0H P l.toArray Q S (.w i s) a w :=
 ⟨o, undef, by simpa using ho, .inr ⟨hg, rfl⟩, h⟩
theorem c0b (ho : l[i]? = some o) (hg : Region.wanted o (yielded l.toArray a.tmps) = false) (h : b0H P l.toArray Q S s (a.put o.dst undef) w) : b0H P l.toArray Q S (.t i s) a w :=
 ⟨o, undef, by simpa using ho, .inr ⟨hg, rfl⟩, h⟩
theorem d0m (ho : l[i]? = some o) (hg : Region.wanted o (yielded l.toArray a.tmps) = true) {v : Value} (hv : ∀ wx, S wx → (execOp a.eval o).run P wx = .ok (.value v) wx) (h : b0H P l.toArray Q S s (a.put o.dst v) w) : b0H P l.toArray Q S (.t i s) a w :=
 ⟨o, v, by simpa using ho, .inl ⟨hg, hv⟩, h⟩
theorem a0R (ho : l[i]? = some o) (hg : Region.wanted o (yielded l.toArray a.tmps) = true) {ty : TypeId} {x : Operand} (hop : o.op = .load ty x) {g p : Nat} (hx : a.eval x = .pointer (some ⟨g, p, none⟩)) (cs : List Value) (hS : ∀ wx, S wx → wx.rangeAt g p cs)
  {d : TypeDesc} (hu : P.underlying ty = some d) (hd : d.isRow = true) (hi : (P.info? ty).map (·.size) = some cs.length) (h : b0H P l.toArray Q S s (a.put o.dst (.agg cs.toArray)) w) : b0H P l.toArray Q S (.t i s) a w :=
 ⟨o, _, by simpa using ho, yieldsIf_load_mid hg ty x hop g p hx cs d hS hu hd hi, h⟩
theorem c0f (ho : l[i]? = some o) (hg : Region.wanted o (yielded l.toArray a.tmps) = true) (h : o.wp P a w (fun a' w' => S w' ∧ b0H P l.toArray Q S s a' w') Q) : b0H P l.toArray Q S (.r i s) a w := by
 have ho' : l.toArray[i]? = some o := by simpa using ho
 show wpOp _ _ _ _ _ _ _
 unfold wpOp
 simp only [ho']
 rw [if_pos hg]
 exact .inl h
theorem d0K (ho : l[i]? = some o) (hg : Region.wanted o (yielded l.toArray a.tmps) = false) (h : S w ∧ b0H P l.toArray Q S s (a.put o.dst undef) w) : b0H P l.toArray Q S (.r i s) a w := by
 have ho' : l.toArray[i]? = some o := by simpa using ho
 show wpOp _ _ _ _ _ _ _
 unfold wpOp
 simp only [ho']
 rw [if_neg (by rw [hg]; decide)]
 exact h
theorem e0J (ho : l[i]? = some o) (hg : Region.wanted o (yielded l.toArray a.tmps) = true) (h : o.wp P a w (fun a' w' => b0H P l.toArray Q S s a' w') Q) : b0H P l.toArray Q S (.m i s) a w := by
 have ho' : l.toArray[i]? = some o := by simpa using ho
 show wpOp _ _ _ _ _ _ _
 unfold wpOp
 simp only [ho']
 rw [if_pos hg]
 exact .inl h
end
end Go.Mv


set_option maxHeartbeats 16000000
set_option maxRecDepth 1000000
namespace Go.Mv
open Go.RowKit
theorem b0R {w : World} {b o n : Nat} {vs : List Value} (h : Rd w (some ⟨b, o, none⟩) n vs) (v : Value) (hv : vs[0]? = some v) : w.cell? ⟨b, o, none⟩ = some v := by
 have hl : 0 < vs.length := by
  rcases Nat.eq_zero_or_pos vs.length with h0 | h0
  ·rw [List.length_eq_zero_iff.1 h0] at hv; cases hv
  ·exact h0
 obtain ⟨b', o', he, hc⟩ := h.at (by have := h.len; omega)
 simp only [Option.some.injEq, Addr.mk.injEq] at he
 obtain ⟨rfl, rfl, -⟩ := he
 simpa using hc 0 v hv
theorem RdB.tail {w : World} {a : Option Addr} {n : Nat} {l : List UInt8} (h : RdB w a n l) (c : Nat) (h1 : 1 ≤ n) (hc : n ≤ c) : RdB w (c0S a 1 c) (n - 1) (l.drop 1) := by
 have h2 := k0k h 1 n c h1 hc (Nat.le_refl _)
 have hl := h.len
 have e : ((bs l).drop 1).take (n - 1) = bs (l.drop 1) := by
  rw [List.take_of_length_le (by rw [List.length_drop, a0M]; omega)]
  simp [bs]
 rw [e] at h2
 exact h2
end Go.Mv
namespace Go.Proofs.YtmebmhjppmfbbaaGreat
open Go.RowKit Go.Mv Mvp Mvq
theorem p0u : Tryz.prog.built 108 [] = some #[.int .u64 0, .int .u64 0, .int .u64 0, .int .u64 0] := by kernel_rfl
theorem h0I : Tryz.prog.built 114 [] = some (cw 4 0 ++ (cw 4 0 ++ cw 4 0)).toArray := by kernel_rfl
theorem f0r : (Tryz.prog.info? 5).map (·.size) = some 1 := by kernel_rfl
theorem t0q : (Tryz.prog.info? 57).map (·.size) = some 1 := by kernel_rfl
theorem t0r (x y : Nat) {o : Oper} {a : Act} {p q : Operand} {T : TypeId} (ho : o.op = .binOp .eql 108 p q T) (hp : a.eval p = i4 x) (hq : a.eval q = i4 y) {b : Bool} (hb : decide (x % B64 ^ 4 = y % B64 ^ 4) = b) (w : World) :
  (execOp a.eval o).run Tryz.prog w = .ok (.value (.bool b)) w := by
 subst hb
 exact e0n ho hp hq w (run_eqGuard_agg w .eql 108 p q _ _ Tryz.eqGuardType108) (f0b w (k0O Tryz.underlying108 Tryz.underlying57 t0q x y w))
theorem j0Q (l : List UInt8) (h : l.length = 33) : tlN l < B64 ^ 4 := g0n (l.drop 1) (by rw [List.length_drop]; omega)
theorem g0Z (a : Option Addr) (c : Nat) (l : List UInt8) (w : World) (hb : RdB w a 32 (l.drop 1)) : Calls Tryz.prog 140 #[.slice a 32 c] w fun e w' => e = .returned (i4 (tlN l)) ∧ Fr Nob w w' :=
 c0O a 32 c (l.drop 1) w hb ap12
def atY (M n : Nat) : Nat := if b0Q M (e0I n) then rtV M (e0I n) else 0
theorem D0v (m : Md) (gc gp bx by_ : Nat) (w : World) (hok : m.Ok) (hcv : Has w gc (f0C m gp bx by_) 122) (hpm : Has w gp (mdL m) 185) (x : Nat) :
  Calls Tryz.prog 181 #[.pointer (some ⟨gc, 0, none⟩), i4 (elN m x)] w fun e w' => e = .returned (.tuple #[ptV m x (atY m.M x) 1, .bool (b0Q m.M (e0I x))]) ∧ Fr Nob w w' := by
 unfold atY
 cases h : b0Q m.M (e0I x)
 ·exact C0I m gc gp bx by_ w hok hcv hpm x _ _ _ rfl rfl rfl h
 ·exact C0H m gc gp bx by_ w hok hcv hpm x _ _ _ rfl rfl rfl h
theorem i0Q (a b : Nat) (w : World) (ha : a < B64 ^ 4) (hb : b < B64 ^ 4) (r : Bool) (hr : decide (a < b) = r) :
  Calls Tryz.prog 141 #[i4 a, i4 b] w fun e w' => e = .returned (.bool r) ∧ Fr Nob w w' := by
 subst hr; exact g0s a b w ha hb
theorem A0w (m : Md) (gc gp bx by_ : Nat) (w : World) (hok : m.Ok) (hcv : Has w gc (f0C m gp bx by_) 122) (hpm : Has w gp (mdL m) 185) (x : Nat) (r : Bool) (hr : b0Q m.M (e0I x) = r) :
  Calls Tryz.prog 181 #[.pointer (some ⟨gc, 0, none⟩), i4 (elN m x)] w fun e w' => e = .returned (.tuple #[.agg (cw 4 (elN m x) ++ (cw 4 (elN m (atY m.M x)) ++ cw 4 (elN m 1))).toArray, .bool r]) ∧ Fr Nob w w' := by
 subst hr; exact D0v m gc gp bx by_ w hok hcv hpm x
theorem q0X (m : Md) (gc gp bx by_ : Nat) (w : World) (hok : m.Ok) (hcv : Has w gc (f0C m gp bx by_) 122) (hpm : Has w gp (mdL m) 185) (x y z : Nat) :
  Calls Tryz.prog 182 #[.pointer (some ⟨gc, 0, none⟩), .agg (cw 4 (elN m x) ++ (cw 4 (elN m y) ++ cw 4 (elN m z))).toArray] w fun e w' => e = .returned (.agg (cw 4 (elN m x) ++ (cw 4 (elN m (m.M - y % m.M)) ++ cw 4 (elN m z))).toArray) ∧ Fr Nob w w' :=
 m0q m gc gp bx by_ w hok hcv hpm x y z
attribute [local irreducible] a0E lw mix cw b0o b0x b0l a0L a0q beN b0F b0c b0z a0J a0N elN mdL b0e rtN rtV b0Q gXn gYn tlN atY e0I
theorem p0v : (Value.agg #[.int .u64 0, .int .u64 0, .int .u64 0, .int .u64 0]) = i4 0 := by rw [i4, f0L]; rfl
theorem t0s (x : Nat) (hx : x < B64 ^ 4) (b : Bool) (hb : (x == 0) = b) (w : World) :
  Calls Tryz.prog 180 #[i4 x] w fun e w' => e = .returned (.bool b) ∧ Fr Nob w w' := by
 subst hb
 have HB := Lib.hid (show decide (x % B64 ^ 4 = 0 % B64 ^ 4) = (x == 0) by rw [Nat.mod_eq_of_lt hx, Nat.zero_mod]; rfl)
 clear hx
 have st0 := St.start Nob w
 go_enter Tryz.func180, Tryz.ntmps180
 go_wp2_with (with_reducible refine wSk 1 ?_)
 refine a0l st0 rfl rfl rfl (cw 4 x) rfl ?_
 intro g1 w1 st1
 clear st0
 go_wp2_with (with_reducible refine wSk 3 ?_)
 refine a0i st1 0 rfl rfl rfl Tryz.underlying108 rfl ap4 ?_
 go_wp2_with (with_reducible refine wSk 4 ?_)
 refine c0M rfl rfl _ p0u ?_
 rw [p0v]
 go_wp2_with (with_reducible refine wSk 5 ?_)
 refine c0Q rfl (t0r x 0 rfl rfl rfl HB.out _) ?_
 have hfr := st1.fr
 clear st1
 go_wp2_with fail
 go_ret
 exact ⟨rfl, hfr⟩
theorem w0j (m : Md) (gc gp bx by_ : Nat) (w : World) (hok : m.Ok) (hcv : Has w gc (f0C m gp bx by_) 122) (hpm : Has w gp (mdL m) 185) (a : Option Addr) (n c : Nat) (l : List UInt8) (hb : RdB w a n l) (_hc : n ≤ c) (h33 : l.length ≠ 33) :
  Calls Tryz.prog 136 #[.pointer (some ⟨gc, 0, none⟩), .slice a n c] w fun e w' => e = .returned (.tuple #[ptV m 0 0 0, .bool false]) ∧ Fr Nob w w' := by
 have HOK := Lib.hid hok
 have HCV := Lib.hid hcv
 have HPM := Lib.hid hpm
 clear hok hcv hpm
 have HN := Lib.hid (show n ≠ 33 by have := hb.len; omega)
 clear hb _hc h33
 have st0 := St.start Nob w
 go_enter Tryz.func136, Tryz.ntmps136
 go_wp2_with (with_reducible refine wSk 4 ?_)
 refine a0a st0 rfl rfl (z := .agg (List.replicate 12 (.int .u64 0)).toArray) ap11 (cw 4 0 ++ (cw 4 0 ++ cw 4 0)) ap9 ?_
 intro g4 w1 st1
 clear st0
 have hne : ((n : Int) != 33) = true := by have := HN.out; simp; omega
 go_wp2_with (with_reducible refine wSk 12 ?_)
 refine c0M rfl rfl _ h0I ?_
 go_wp2_with (with_reducible refine wSn ?_)
 refine a0b st1 0 rfl rfl rfl rfl rfl (by first | (simp only; done) | (simp only [List.length_append, a0e]; done)) ap4 (a0Q _ _ _) ?_
 intro w2 st2
 clear st1
 have hr := st2.at 0 rfl
 have hfr := st2.fr
 clear st2
 go_wp2_with fail
 exact bodyPost_ret (a0x rfl rfl hr Tryz.underlying114 rfl ap4 rfl) rfl ⟨by unfold ptV ptL; rw [d0X]; rfl, hfr⟩
theorem m0N (m : Md) (gc gp bx by_ : Nat) (w : World) (hok : m.Ok) (hcv : Has w gc (f0C m gp bx by_) 122) (hpm : Has w gp (mdL m) 185) (a : Option Addr) (n c : Nat) (l : List UInt8) (hb : RdB w a n l) (hc : n ≤ c) (h33 : l.length = 33) (h0 : (bs l)[0]? = some (.int .u8 0)) (b : Bool) (hzb : (tlN l == 0) = b) :
  Calls Tryz.prog 136 #[.pointer (some ⟨gc, 0, none⟩), .slice a n c] w fun e w' => e = .returned (.tuple #[ptV m 1 1 0, .bool b]) ∧ Fr Nob w w' := by
 have HOK := Lib.hid hok
 have HCV := Lib.hid hcv
 have HPM := Lib.hid hpm
 clear hok hcv hpm
 have h33n : n = 33 := by have := hb.len; omega
 subst h33n
 obtain ⟨ba, oa, rfl, -⟩ := Rd.at hb ap12
 have HB := Lib.hid hb
 have HC := Lib.hid hc
 have HT := Lib.hid (RdB.tail hb c ap12 hc)
 have H0 := Lib.hid h0
 have HTN := Lib.hid (j0Q l h33)
 clear hb hc h33 h0
 have HZB := Lib.hid hzb
 clear hzb
 have st0 := St.start Nob w
 go_enter Tryz.func136, Tryz.ntmps136
 go_wp2_with (with_reducible refine wSk 4 ?_)
 refine a0a st0 rfl rfl (z := .agg (List.replicate 12 (.int .u64 0)).toArray) ap11 (cw 4 0 ++ (cw 4 0 ++ cw 4 0)) ap9 ?_
 intro g4 w1 st1
 clear st0
 have hne : (((33 : Nat) : Int) != 33) = false := by rfl
 go_wp2_with (with_reducible refine wSk 14 ?_)
 refine h0V rfl rfl Tryz.underlying22 f0r rfl 1 33 ⟨_, rfl⟩ rfl ap12 HC.out ?_
 rw [show (33 : Nat) - 1 = 32 from rfl]
 go_wp2_with fail
 refine (g0Z _ _ l _ (HT.out.still st1.fr)).mono ?_
 rintro e' w2 ⟨rfl, hf2⟩
 have st2 := st1.keep hf2
 clear st1 hf2
 go_wp2_with (with_reducible refine wSk 6 ?_)
 refine a0a st2 rfl rfl (z := zAd) ap11 (cw 4 0) ap9 ?_
 intro g6 w3 st3
 clear st2
 go_wp2_with (with_reducible refine wSn ?_)
 refine a0b st3 1 rfl rfl rfl rfl rfl ap5 ap4 (a0g _ _) ?_
 intro w4 st4
 clear st3
 have hcell := b0R (HB.out.still st4.fr) _ H0.out
 go_wp2_with fail
 clear hcell
 go_wp2_with fail
 refine wp_region_noPanic ?_
 refine a0o (fun wx => St Nob w wx [(g4, cw 4 0 ++ (cw 4 0 ++ cw 4 0), 114), (g6, cw 4 (tlN l), 108)]) 4 (.w 0 (.t 2 (.r 1 (.r 3 (.m 4 (.w 5 .nil)))))) ap11 ap11 st4.drew (fun _ _ _ _ _ h => h) ?_
 have hd4 := st4.drew
 clear st4
 refine a0k rfl rfl apW ?_
 try simp only [clL]
 refine a0s rfl rfl rfl rfl (cw 4 (tlN l)) (fun wx hS => St.rangeL hS 1 rfl 0 _ dZl) Tryz.underlying108 rfl ap4 ?_
 try simp only [clL]
 refine a0y rfl rfl ?_
 go_simp
 refine (m0G m gc gp bx by_ _ HOK.out (HCV.out.keep hd4.fr id) (HPM.out.keep hd4.fr id)).mono ?_
 rintro e' w5 ⟨rfl, hf5⟩
 have st5 := hd4.keep hf5
 clear hf5
 clear hd4
 refine ⟨st5, ?_⟩
 try simp only [clL]
 refine a0y rfl rfl ?_
 go_simp
 refine (t0s (tlN l) HTN.out b HZB.out _).mono ?_
 rintro e' w6 ⟨rfl, hf6⟩
 have st6 := st5.keep hf6
 clear hf6
 clear st5
 refine ⟨st6, ?_⟩
 try simp only [clL]
 refine a0r rfl rfl ?_
 refine a0h st6 0 rfl rfl rfl rfl ap5 ap4 (a0Q _ _ _) ?_
 intro w7 st7
 clear st6
 try simp only [Act.put]
 refine a0k rfl rfl apW ?_
 try simp only [clL]
 refine a0j ?_
 refine NoPanic.normal ?_
 have hr := st7.at 0 rfl
 have hfr := st7.fr
 clear st7
 go_wp2_with fail
 exact bodyPost_ret (a0x rfl rfl hr Tryz.underlying114 rfl ap4 rfl) rfl ⟨by unfold ptV ptL; rfl, hfr⟩
theorem w0k (m : Md) (gc gp bx by_ : Nat) (w : World) (hok : m.Ok) (hcv : Has w gc (f0C m gp bx by_) 122) (hpm : Has w gp (mdL m) 185) (a : Option Addr) (n c : Nat) (l : List UInt8) (hb : RdB w a n l) (hc : n ≤ c) (h33 : l.length = 33) (q : Nat) (h0 : (bs l)[0]? = some (.int .u8 (q : Int))) (hq0 : ((q : Int) == 0) = false) (hq2 : ((q : Int) != 2) = true) (hq3 : ((q : Int) != 3) = true) :
  Calls Tryz.prog 136 #[.pointer (some ⟨gc, 0, none⟩), .slice a n c] w fun e w' => e = .returned (.tuple #[ptV m 0 0 0, .bool false]) ∧ Fr Nob w w' := by
 have HOK := Lib.hid hok
 have HCV := Lib.hid hcv
 have HPM := Lib.hid hpm
 clear hok hcv hpm
 have h33n : n = 33 := by have := hb.len; omega
 subst h33n
 obtain ⟨ba, oa, rfl, -⟩ := Rd.at hb ap12
 have HB := Lib.hid hb
 have HC := Lib.hid hc
 have HT := Lib.hid (RdB.tail hb c ap12 hc)
 have H0 := Lib.hid h0
 have HTN := Lib.hid (j0Q l h33)
 clear hb hc h33 h0
 have HQ0 := Lib.hid hq0
 have HQ2 := Lib.hid hq2
 have HQ3 := Lib.hid hq3
 clear hq0 hq2 hq3
 have st0 := St.start Nob w
 go_enter Tryz.func136, Tryz.ntmps136
 go_wp2_with (with_reducible refine wSk 4 ?_)
 refine a0a st0 rfl rfl (z := .agg (List.replicate 12 (.int .u64 0)).toArray) ap11 (cw 4 0 ++ (cw 4 0 ++ cw 4 0)) ap9 ?_
 intro g4 w1 st1
 clear st0
 have hne : (((33 : Nat) : Int) != 33) = false := by rfl
 go_wp2_with (with_reducible refine wSk 14 ?_)
 refine h0V rfl rfl Tryz.underlying22 f0r rfl 1 33 ⟨_, rfl⟩ rfl ap12 HC.out ?_
 rw [show (33 : Nat) - 1 = 32 from rfl]
 go_wp2_with fail
 refine (g0Z _ _ l _ (HT.out.still st1.fr)).mono ?_
 rintro e' w2 ⟨rfl, hf2⟩
 have st2 := st1.keep hf2
 clear st1 hf2
 go_wp2_with (with_reducible refine wSk 6 ?_)
 refine a0a st2 rfl rfl (z := zAd) ap11 (cw 4 0) ap9 ?_
 intro g6 w3 st3
 clear st2
 go_wp2_with (with_reducible refine wSn ?_)
 refine a0b st3 1 rfl rfl rfl rfl rfl ap5 ap4 (a0g _ _) ?_
 intro w4 st4
 clear st3
 have hq0 := HQ0.out
 have hq2 := HQ2.out
 have hq3 := HQ3.out
 have hcell := b0R (HB.out.still st4.fr) _ H0.out
 go_wp2_with fail
 clear hcell
 go_wp2_with fail
 refine wp_region_noPanic ?_
 refine b0d (fun wx => St Nob w wx [(g4, cw 4 0 ++ (cw 4 0 ++ cw 4 0), 114), (g6, cw 4 (tlN l), 108)]) 22 (.w 0 (.w 1 (.t 2 (.w 3 (.w 4 (.w 5 (.w 6 (.t 7 (.w 8 (.w 9 (.w 10 (.t 11 (.w 12 (.w 13 (.w 14 (.t 15 (.w 16 (.w 17 (.t 18 (.r 19 (.w 20 (.w 21 (.m 22 .nil))))))))))))))))))))))) ap11 ap11 st4.drew (fun _ _ _ _ _ h => h) ?_
 have hd4 := st4.drew
 clear st4
 refine a0n rfl rfl apW ?_
 try simp only [clL]
 refine a0n rfl rfl apW ?_
 try simp only [clL]
 refine d0m (v := ?_) rfl rfl (fun wx hS => ?_) ?_
 rotate_left 1
 ·(have hc := (b0R (HB.out.still (St.fr hS)) _ H0.out); clear hS; go_simp; with_reducible rfl)
 try simp only [clL]
 refine a0n rfl rfl apW ?_
 try simp only [clL]
 refine a0n rfl rfl apW ?_
 try simp only [clL]
 refine a0n rfl rfl apW ?_
 try simp only [clL]
 refine a0n rfl rfl apW ?_
 try simp only [clL]
 refine d0m (v := ?_) rfl rfl (fun wx hS => ?_) ?_
 rotate_left 1
 ·(have hc := (b0R (HB.out.still (St.fr hS)) _ H0.out); clear hS; go_simp; with_reducible rfl)
 try simp only [clL]
 refine a0n rfl rfl apW ?_
 try simp only [clL]
 refine a0n rfl rfl apW ?_
 try simp only [clL]
 refine a0n rfl rfl apW ?_
 try simp only [clL]
 refine c0b rfl rfl ?_
 try simp only [clL]
 refine a0Y rfl rfl ?_
 try simp only [clL]
 refine a0Y rfl rfl ?_
 try simp only [clL]
 refine a0Y rfl rfl ?_
 try simp only [clL]
 refine c0b rfl rfl ?_
 try simp only [clL]
 refine a0Y rfl rfl ?_
 try simp only [clL]
 refine a0Y rfl rfl ?_
 try simp only [clL]
 refine c0b rfl rfl ?_
 try simp only [clL]
 refine d0K rfl rfl ⟨hd4, ?_⟩
 try simp only [clL]
 refine a0Y rfl rfl ?_
 try simp only [clL]
 refine a0n rfl rfl apW ?_
 try simp only [clL]
 refine e0J rfl rfl ?_
 go_simp
 try simp only [clL]
 refine c0R ?_
 have st5 := hd4
 clear hd4
 refine NoPanic.normal ?_
 go_wp2_with (with_reducible refine wSk 48 ?_)
 refine c0M rfl rfl _ h0I ?_
 go_wp2_with (with_reducible refine wSn ?_)
 refine a0b st5 0 rfl rfl rfl rfl rfl (by first | (simp only; done) | (simp only [List.length_append, a0e]; done)) ap4 (a0Q _ _ _) ?_
 intro w6 st6
 clear st5
 have hr := st6.at 0 rfl
 have hfr := st6.fr
 clear st6
 go_wp2_with fail
 exact bodyPost_ret (a0x rfl rfl hr Tryz.underlying114 rfl ap4 rfl) rfl ⟨by unfold ptV ptL; rw [d0X]; rfl, hfr⟩
theorem w0l (m : Md) (gc gp bx by_ : Nat) (w : World) (hok : m.Ok) (hcv : Has w gc (f0C m gp bx by_) 122) (hpm : Has w gp (mdL m) 185) (a : Option Addr) (n c : Nat) (l : List UInt8) (hb : RdB w a n l) (hc : n ≤ c) (h33 : l.length = 33) (h0 : (bs l)[0]? = some (.int .u8 2)) (hlt : decide (tlN l < m.M) = false) :
  Calls Tryz.prog 136 #[.pointer (some ⟨gc, 0, none⟩), .slice a n c] w fun e w' => e = .returned (.tuple #[ptV m 0 0 0, .bool false]) ∧ Fr Nob w w' := by
 have HOK := Lib.hid hok
 have HCV := Lib.hid hcv
 have HPM := Lib.hid hpm
 clear hok hcv hpm
 have h33n : n = 33 := by have := hb.len; omega
 subst h33n
 obtain ⟨ba, oa, rfl, -⟩ := Rd.at hb ap12
 have HB := Lib.hid hb
 have HC := Lib.hid hc
 have HT := Lib.hid (RdB.tail hb c ap12 hc)
 have H0 := Lib.hid h0
 have HTN := Lib.hid (j0Q l h33)
 clear hb hc h33 h0
 have HDL := Lib.hid hlt
 clear hlt
 have st0 := St.start Nob w
 go_enter Tryz.func136, Tryz.ntmps136
 go_wp2_with (with_reducible refine wSk 4 ?_)
 refine a0a st0 rfl rfl (z := .agg (List.replicate 12 (.int .u64 0)).toArray) ap11 (cw 4 0 ++ (cw 4 0 ++ cw 4 0)) ap9 ?_
 intro g4 w1 st1
 clear st0
 have hne : (((33 : Nat) : Int) != 33) = false := by rfl
 go_wp2_with (with_reducible refine wSk 14 ?_)
 refine h0V rfl rfl Tryz.underlying22 f0r rfl 1 33 ⟨_, rfl⟩ rfl ap12 HC.out ?_
 rw [show (33 : Nat) - 1 = 32 from rfl]
 go_wp2_with fail
 refine (g0Z _ _ l _ (HT.out.still st1.fr)).mono ?_
 rintro e' w2 ⟨rfl, hf2⟩
 have st2 := st1.keep hf2
 clear st1 hf2
 go_wp2_with (with_reducible refine wSk 6 ?_)
 refine a0a st2 rfl rfl (z := zAd) ap11 (cw 4 0) ap9 ?_
 intro g6 w3 st3
 clear st2
 go_wp2_with (with_reducible refine wSn ?_)
 refine a0b st3 1 rfl rfl rfl rfl rfl ap5 ap4 (a0g _ _) ?_
 intro w4 st4
 clear st3
 have hcell := b0R (HB.out.still st4.fr) _ H0.out
 go_wp2_with fail
 clear hcell
 go_wp2_with fail
 refine wp_region_noPanic ?_
 refine b0d (fun wx => St Nob w wx [(g4, cw 4 0 ++ (cw 4 0 ++ cw 4 0), 114), (g6, cw 4 (tlN l), 108)]) 22 (.w 0 (.w 1 (.t 2 (.w 3 (.w 4 (.w 5 (.w 6 (.t 7 (.w 8 (.w 9 (.w 10 (.t 11 (.w 12 (.w 13 (.w 14 (.t 15 (.w 16 (.w 17 (.t 18 (.r 19 (.w 20 (.w 21 (.m 22 .nil))))))))))))))))))))))) ap11 ap11 st4.drew (fun _ _ _ _ _ h => h) ?_
 have hd4 := st4.drew
 clear st4
 refine a0n rfl rfl apW ?_
 try simp only [clL]
 refine a0n rfl rfl apW ?_
 try simp only [clL]
 refine d0m (v := ?_) rfl rfl (fun wx hS => ?_) ?_
 rotate_left 1
 ·(have hc := (b0R (HB.out.still (St.fr hS)) _ H0.out); clear hS; go_simp; with_reducible rfl)
 try simp only [clL]
 refine a0n rfl rfl apW ?_
 try simp only [clL]
 refine a0n rfl rfl apW ?_
 try simp only [clL]
 refine a0Y rfl rfl ?_
 try simp only [clL]
 refine a0Y rfl rfl ?_
 try simp only [clL]
 refine c0b rfl rfl ?_
 try simp only [clL]
 refine a0Y rfl rfl ?_
 try simp only [clL]
 refine a0n rfl rfl apW ?_
 try simp only [clL]
 refine a0n rfl rfl apW ?_
 try simp only [clL]
 refine a0R rfl rfl rfl rfl (cw 4 (tlN l)) (fun wx hS => St.rangeL hS 1 rfl 0 _ dZl) Tryz.underlying108 rfl ap4 ?_
 try simp only [clL]
 refine a0n rfl rfl apW ?_
 try simp only [clL]
 refine a0n rfl rfl apW ?_
 try simp only [clL]
 refine a0n rfl rfl apW ?_
 try simp only [clL]
 refine d0m (v := ?_) rfl rfl (fun wx hS => ?_) ?_
 rotate_left 1
 ·(have hc := (HCV.out.keep (St.fr hS) id).cell (i := 0) rfl; clear hS; go_simp; with_reducible rfl)
 try simp only [clL]
 refine a0n rfl rfl apW ?_
 try simp only [clL]
 refine a0n rfl rfl apW ?_
 try simp only [clL]
 refine a0R rfl rfl rfl rfl (cw 4 m.M) (fun wx hS => (HPM.out.keep (St.fr hS) id).range 0 _ (n0b m)) Tryz.underlying108 rfl ap4 ?_
 try simp only [clL]
 refine c0f rfl rfl ?_
 go_simp
 refine (i0Q (tlN l) m.M _ HTN.out HOK.out.lt false HDL.out).mono ?_
 rintro e' w5 ⟨rfl, hf5⟩
 have st5 := hd4.keep hf5
 clear hf5
 clear hd4
 refine ⟨st5, ?_⟩
 try simp only [clL]
 refine a0n rfl rfl apW ?_
 try simp only [clL]
 refine a0n rfl rfl apW ?_
 try simp only [clL]
 refine e0J rfl rfl ?_
 go_simp
 try simp only [clL]
 refine c0R ?_
 refine NoPanic.normal ?_
 go_wp2_with (with_reducible refine wSk 48 ?_)
 refine c0M rfl rfl _ h0I ?_
 go_wp2_with (with_reducible refine wSn ?_)
 refine a0b st5 0 rfl rfl rfl rfl rfl (by first | (simp only; done) | (simp only [List.length_append, a0e]; done)) ap4 (a0Q _ _ _) ?_
 intro w6 st6
 clear st5
 have hr := st6.at 0 rfl
 have hfr := st6.fr
 clear st6
 go_wp2_with fail
 exact bodyPost_ret (a0x rfl rfl hr Tryz.underlying114 rfl ap4 rfl) rfl ⟨by unfold ptV ptL; rw [d0X]; rfl, hfr⟩
theorem p0w (m : Md) (gc gp bx by_ : Nat) (w : World) (hok : m.Ok) (hcv : Has w gc (f0C m gp bx by_) 122) (hpm : Has w gp (mdL m) 185) (a : Option Addr) (n c : Nat) (l : List UInt8) (hb : RdB w a n l) (hc : n ≤ c) (h33 : l.length = 33) (h0 : (bs l)[0]? = some (.int .u8 2)) (hlt : decide (tlN l < m.M) = true) (r : Bool) (hr : b0Q m.M (e0I (tlN l)) = r) :
  Calls Tryz.prog 136 #[.pointer (some ⟨gc, 0, none⟩), .slice a n c] w fun e w' => e = .returned (.tuple #[ptV m (tlN l) (atY m.M (tlN l)) 1, .bool r]) ∧ Fr Nob w w' := by
 have HOK := Lib.hid hok
 have HCV := Lib.hid hcv
 have HPM := Lib.hid hpm
 clear hok hcv hpm
 have h33n : n = 33 := by have := hb.len; omega
 subst h33n
 obtain ⟨ba, oa, rfl, -⟩ := Rd.at hb ap12
 have HB := Lib.hid hb
 have HC := Lib.hid hc
 have HT := Lib.hid (RdB.tail hb c ap12 hc)
 have H0 := Lib.hid h0
 have HTN := Lib.hid (j0Q l h33)
 clear hb hc h33 h0
 have HDL := Lib.hid hlt
 clear hlt
 have HR := Lib.hid hr
 clear hr
 have st0 := St.start Nob w
 go_enter Tryz.func136, Tryz.ntmps136
 go_wp2_with (with_reducible refine wSk 4 ?_)
 refine a0a st0 rfl rfl (z := .agg (List.replicate 12 (.int .u64 0)).toArray) ap11 (cw 4 0 ++ (cw 4 0 ++ cw 4 0)) ap9 ?_
 intro g4 w1 st1
 clear st0
 have hne : (((33 : Nat) : Int) != 33) = false := by rfl
 go_wp2_with (with_reducible refine wSk 14 ?_)
 refine h0V rfl rfl Tryz.underlying22 f0r rfl 1 33 ⟨_, rfl⟩ rfl ap12 HC.out ?_
 rw [show (33 : Nat) - 1 = 32 from rfl]
 go_wp2_with fail
 refine (g0Z _ _ l _ (HT.out.still st1.fr)).mono ?_
 rintro e' w2 ⟨rfl, hf2⟩
 have st2 := st1.keep hf2
 clear st1 hf2
 go_wp2_with (with_reducible refine wSk 6 ?_)
 refine a0a st2 rfl rfl (z := zAd) ap11 (cw 4 0) ap9 ?_
 intro g6 w3 st3
 clear st2
 go_wp2_with (with_reducible refine wSn ?_)
 refine a0b st3 1 rfl rfl rfl rfl rfl ap5 ap4 (a0g _ _) ?_
 intro w4 st4
 clear st3
 have hcell := b0R (HB.out.still st4.fr) _ H0.out
 go_wp2_with fail
 clear hcell
 go_wp2_with fail
 refine wp_region_noPanic ?_
 refine b0d (fun wx => St Nob w wx [(g4, cw 4 0 ++ (cw 4 0 ++ cw 4 0), 114), (g6, cw 4 (tlN l), 108)]) 22 (.w 0 (.w 1 (.t 2 (.w 3 (.w 4 (.w 5 (.w 6 (.t 7 (.w 8 (.w 9 (.w 10 (.t 11 (.w 12 (.w 13 (.w 14 (.t 15 (.w 16 (.w 17 (.t 18 (.r 19 (.w 20 (.w 21 (.m 22 .nil))))))))))))))))))))))) ap11 ap11 st4.drew (fun _ _ _ _ _ h => h) ?_
 have hd4 := st4.drew
 clear st4
 refine a0n rfl rfl apW ?_
 try simp only [clL]
 refine a0n rfl rfl apW ?_
 try simp only [clL]
 refine d0m (v := ?_) rfl rfl (fun wx hS => ?_) ?_
 rotate_left 1
 ·(have hc := (b0R (HB.out.still (St.fr hS)) _ H0.out); clear hS; go_simp; with_reducible rfl)
 try simp only [clL]
 refine a0n rfl rfl apW ?_
 try simp only [clL]
 refine a0n rfl rfl apW ?_
 try simp only [clL]
 refine a0Y rfl rfl ?_
 try simp only [clL]
 refine a0Y rfl rfl ?_
 try simp only [clL]
 refine c0b rfl rfl ?_
 try simp only [clL]
 refine a0Y rfl rfl ?_
 try simp only [clL]
 refine a0n rfl rfl apW ?_
 try simp only [clL]
 refine a0n rfl rfl apW ?_
 try simp only [clL]
 refine a0R rfl rfl rfl rfl (cw 4 (tlN l)) (fun wx hS => St.rangeL hS 1 rfl 0 _ dZl) Tryz.underlying108 rfl ap4 ?_
 try simp only [clL]
 refine a0n rfl rfl apW ?_
 try simp only [clL]
 refine a0n rfl rfl apW ?_
 try simp only [clL]
 refine a0n rfl rfl apW ?_
 try simp only [clL]
 refine d0m (v := ?_) rfl rfl (fun wx hS => ?_) ?_
 rotate_left 1
 ·(have hc := (HCV.out.keep (St.fr hS) id).cell (i := 0) rfl; clear hS; go_simp; with_reducible rfl)
 try simp only [clL]
 refine a0n rfl rfl apW ?_
 try simp only [clL]
 refine a0n rfl rfl apW ?_
 try simp only [clL]
 refine a0R rfl rfl rfl rfl (cw 4 m.M) (fun wx hS => (HPM.out.keep (St.fr hS) id).range 0 _ (n0b m)) Tryz.underlying108 rfl ap4 ?_
 try simp only [clL]
 refine c0f rfl rfl ?_
 go_simp
 refine (i0Q (tlN l) m.M _ HTN.out HOK.out.lt true HDL.out).mono ?_
 rintro e' w5 ⟨rfl, hf5⟩
 have st5 := hd4.keep hf5
 clear hf5
 clear hd4
 refine ⟨st5, ?_⟩
 try simp only [clL]
 refine a0n rfl rfl apW ?_
 try simp only [clL]
 refine a0n rfl rfl apW ?_
 try simp only [clL]
 refine e0J rfl rfl ?_
 go_simp
 try simp only [clL]
 refine c0R ?_
 refine NoPanic.normal ?_
 go_wp2_with fail
 refine wp_region_noPanic ?_
 refine a0o (fun wx => St Nob w wx [(g4, cw 4 0 ++ (cw 4 0 ++ cw 4 0), 114), (g6, cw 4 (tlN l), 108)]) 13 (.w 0 (.w 1 (.w 2 (.w 3 (.t 4 (.t 5 (.b 6 11 (.b 7 11 (.w 8 (.w 9 (.w 10 (.r 11 (.r 12 (.m 13 .nil)))))) (.r 7 (.w 8 (.w 9 (.w 10 (.r 12 (.m 13 .nil))))))) (.r 6 (.r 7 (.w 8 (.w 9 (.w 10 (.r 12 (.m 13 .nil)))))))))))))) ap11 ap11 st5.drew (fun _ _ _ _ _ h => h) ?_
 have hd5 := st5.drew
 clear st5
 refine a0k rfl rfl apW ?_
 try simp only [clL]
 refine a0k rfl rfl apW ?_
 try simp only [clL]
 refine a0k rfl rfl apW ?_
 try simp only [clL]
 refine a0k rfl rfl apW ?_
 try simp only [clL]
 refine d0T (v := ?_) rfl rfl (fun wx hS => ?_) ?_
 rotate_left 1
 ·(have hc := (HCV.out.keep (St.fr hS) id).cell (i := 0) rfl; clear hS; go_simp; with_reducible rfl)
 try simp only [clL]
 refine a0s rfl rfl rfl rfl (cw 4 (tlN l)) (fun wx hS => St.rangeL hS 1 rfl 0 _ dZl) Tryz.underlying108 rfl ap4 ?_
 try simp only [clL]
 refine e0Y (C := fun g7 wz => St Nob w wz [(g4, cw 4 0 ++ (cw 4 0 ++ cw 4 0), 114), (g6, cw 4 (tlN l), 108), (g7, cw 4 (elN m (tlN l)) ++ (cw 4 (elN m (atY m.M (tlN l))) ++ cw 4 (elN m 1)), 114)]) (F := ?_) (fun key => ?_) ?_
 rotate_left 1
 ·skip
  refine e0B rfl rfl rfl rfl ?_ ?_
  ·skip
   go_simp
   refine (d0Y m gp _ HOK.out (HPM.out.keep hd5.fr id) (tlN l) HTN.out).mono ?_
   rintro e' w6 ⟨rfl, hf6⟩
   have st6 := hd5.keep hf6
   clear hf6
   refine ⟨st6, ?_⟩
   try simp only [clL]
   refine e0B rfl rfl rfl rfl ?_ ?_
   ·skip
    go_simp
    refine (A0w m gc gp bx by_ _ HOK.out (HCV.out.keep st6.fr id) (HPM.out.keep st6.fr id) (tlN l) r HR.out).mono ?_
    rintro e' w7 ⟨rfl, hf7⟩
    have st7 := st6.keep hf7
    clear hf7
    refine ⟨st7, ?_⟩
    try simp only [clL]
    refine a0k rfl rfl apW ?_
    try simp only [clL]
    refine a0k rfl rfl apW ?_
    try simp only [clL]
    refine a0k rfl rfl apW ?_
    try simp only [clL]
    refine a0y rfl rfl ?_
    refine b0k st7 rfl (z := zAc) ap11 (cw 12 0) ap9 ?_
    intro g7 w8 st8
    refine ⟨St.less st8 ap14, ?_⟩
    try simp only [clL]
    refine a0y rfl rfl ?_
    refine a0h st8 2 rfl rfl rfl rfl ap5 ap4 (a0Q _ _ _) ?_
    intro w9 st9
    refine ⟨St.less st9 ap14, ?_⟩
    try simp only [Act.put]
    refine a0r rfl rfl ?_
    go_simp
    try simp only [clL]
    refine a0j ?_
    exact key g7 _ st9
   ·skip
    refine b0k st6 rfl (z := zAc) ap11 (cw 12 0) ap9 ?_
    intro g7 w10 st10
    refine ⟨St.less st10 ap14, ?_⟩
    try simp only [clL]
    refine a0y rfl rfl ?_
    go_simp
    refine (A0w m gc gp bx by_ _ HOK.out (HCV.out.keep st10.fr id) (HPM.out.keep st10.fr id) (tlN l) r HR.out).mono ?_
    rintro e' w11 ⟨rfl, hf11⟩
    have st11 := st10.keep hf11
    clear hf11
    refine ⟨St.less st11 ap14, ?_⟩
    try simp only [clL]
    refine a0k rfl rfl apW ?_
    try simp only [clL]
    refine a0k rfl rfl apW ?_
    try simp only [clL]
    refine a0k rfl rfl apW ?_
    try simp only [clL]
    refine a0y rfl rfl ?_
    refine a0h st11 2 rfl rfl rfl rfl ap5 ap4 (a0Q _ _ _) ?_
    intro w12 st12
    refine ⟨St.less st12 ap14, ?_⟩
    try simp only [Act.put]
    refine a0r rfl rfl ?_
    go_simp
    try simp only [clL]
    refine a0j ?_
    exact key g7 _ st12
  ·skip
   refine b0k hd5 rfl (z := zAc) ap11 (cw 12 0) ap9 ?_
   intro g7 w13 st13
   refine ⟨St.less st13 ap14, ?_⟩
   try simp only [clL]
   refine a0y rfl rfl ?_
   go_simp
   refine (d0Y m gp _ HOK.out (HPM.out.keep st13.fr id) (tlN l) HTN.out).mono ?_
   rintro e' w14 ⟨rfl, hf14⟩
   have st14 := st13.keep hf14
   clear hf14
   refine ⟨St.less st14 ap14, ?_⟩
   try simp only [clL]
   refine a0y rfl rfl ?_
   go_simp
   refine (A0w m gc gp bx by_ _ HOK.out (HCV.out.keep st14.fr id) (HPM.out.keep st14.fr id) (tlN l) r HR.out).mono ?_
   rintro e' w15 ⟨rfl, hf15⟩
   have st15 := st14.keep hf15
   clear hf15
   refine ⟨St.less st15 ap14, ?_⟩
   try simp only [clL]
   refine a0k rfl rfl apW ?_
   try simp only [clL]
   refine a0k rfl rfl apW ?_
   try simp only [clL]
   refine a0k rfl rfl apW ?_
   try simp only [clL]
   refine a0y rfl rfl ?_
   refine a0h st15 2 rfl rfl rfl rfl ap5 ap4 (a0Q _ _ _) ?_
   intro w16 st16
   refine ⟨St.less st16 ap14, ?_⟩
   try simp only [Act.put]
   refine a0r rfl rfl ?_
   go_simp
   try simp only [clL]
   refine a0j ?_
   exact key g7 _ st16
 intro g7 w17 st17
 have st17 : St Nob w w17 [(g4, cw 4 0 ++ (cw 4 0 ++ cw 4 0), 114), (g6, cw 4 (tlN l), 108), (g7, cw 4 (elN m (tlN l)) ++ (cw 4 (elN m (atY m.M (tlN l))) ++ cw 4 (elN m 1)), 114)] := st17
 clear hd5
 refine NoPanic.normal ?_
 have hcell := b0R (HB.out.still st17.fr) _ H0.out
 go_wp2_with (with_reducible refine wSk 67 ?_)
 refine a0m st17 2 rfl rfl rfl Tryz.underlying114 rfl rfl ap4 ?_
 go_wp2_with (with_reducible refine wSn ?_)
 refine a0b st17 0 rfl rfl rfl rfl rfl ap5 ap4 (a0Q _ _ _) ?_
 intro w18 st18
 clear st17
 have hr := st18.at 0 rfl
 have hfr := st18.fr
 clear st18
 go_wp2_with fail
 exact bodyPost_ret (a0x rfl rfl hr Tryz.underlying114 rfl ap4 rfl) rfl ⟨by unfold ptV ptL; rfl, hfr⟩
theorem w0m (m : Md) (gc gp bx by_ : Nat) (w : World) (hok : m.Ok) (hcv : Has w gc (f0C m gp bx by_) 122) (hpm : Has w gp (mdL m) 185) (a : Option Addr) (n c : Nat) (l : List UInt8) (hb : RdB w a n l) (hc : n ≤ c) (h33 : l.length = 33) (h0 : (bs l)[0]? = some (.int .u8 3)) (hlt : decide (tlN l < m.M) = false) :
  Calls Tryz.prog 136 #[.pointer (some ⟨gc, 0, none⟩), .slice a n c] w fun e w' => e = .returned (.tuple #[ptV m 0 0 0, .bool false]) ∧ Fr Nob w w' := by
 have HOK := Lib.hid hok
 have HCV := Lib.hid hcv
 have HPM := Lib.hid hpm
 clear hok hcv hpm
 have h33n : n = 33 := by have := hb.len; omega
 subst h33n
 obtain ⟨ba, oa, rfl, -⟩ := Rd.at hb ap12
 have HB := Lib.hid hb
 have HC := Lib.hid hc
 have HT := Lib.hid (RdB.tail hb c ap12 hc)
 have H0 := Lib.hid h0
 have HTN := Lib.hid (j0Q l h33)
 clear hb hc h33 h0
 have HDL := Lib.hid hlt
 clear hlt
 have st0 := St.start Nob w
 go_enter Tryz.func136, Tryz.ntmps136
 go_wp2_with (with_reducible refine wSk 4 ?_)
 refine a0a st0 rfl rfl (z := .agg (List.replicate 12 (.int .u64 0)).toArray) ap11 (cw 4 0 ++ (cw 4 0 ++ cw 4 0)) ap9 ?_
 intro g4 w1 st1
 clear st0
 have hne : (((33 : Nat) : Int) != 33) = false := by rfl
 go_wp2_with (with_reducible refine wSk 14 ?_)
 refine h0V rfl rfl Tryz.underlying22 f0r rfl 1 33 ⟨_, rfl⟩ rfl ap12 HC.out ?_
 rw [show (33 : Nat) - 1 = 32 from rfl]
 go_wp2_with fail
 refine (g0Z _ _ l _ (HT.out.still st1.fr)).mono ?_
 rintro e' w2 ⟨rfl, hf2⟩
 have st2 := st1.keep hf2
 clear st1 hf2
 go_wp2_with (with_reducible refine wSk 6 ?_)
 refine a0a st2 rfl rfl (z := zAd) ap11 (cw 4 0) ap9 ?_
 intro g6 w3 st3
 clear st2
 go_wp2_with (with_reducible refine wSn ?_)
 refine a0b st3 1 rfl rfl rfl rfl rfl ap5 ap4 (a0g _ _) ?_
 intro w4 st4
 clear st3
 have hcell := b0R (HB.out.still st4.fr) _ H0.out
 go_wp2_with fail
 clear hcell
 go_wp2_with fail
 refine wp_region_noPanic ?_
 refine b0d (fun wx => St Nob w wx [(g4, cw 4 0 ++ (cw 4 0 ++ cw 4 0), 114), (g6, cw 4 (tlN l), 108)]) 22 (.w 0 (.w 1 (.t 2 (.w 3 (.w 4 (.w 5 (.w 6 (.t 7 (.w 8 (.w 9 (.w 10 (.t 11 (.w 12 (.w 13 (.w 14 (.t 15 (.w 16 (.w 17 (.t 18 (.r 19 (.w 20 (.w 21 (.m 22 .nil))))))))))))))))))))))) ap11 ap11 st4.drew (fun _ _ _ _ _ h => h) ?_
 have hd4 := st4.drew
 clear st4
 refine a0n rfl rfl apW ?_
 try simp only [clL]
 refine a0n rfl rfl apW ?_
 try simp only [clL]
 refine d0m (v := ?_) rfl rfl (fun wx hS => ?_) ?_
 rotate_left 1
 ·(have hc := (b0R (HB.out.still (St.fr hS)) _ H0.out); clear hS; go_simp; with_reducible rfl)
 try simp only [clL]
 refine a0n rfl rfl apW ?_
 try simp only [clL]
 refine a0n rfl rfl apW ?_
 try simp only [clL]
 refine a0n rfl rfl apW ?_
 try simp only [clL]
 refine a0n rfl rfl apW ?_
 try simp only [clL]
 refine d0m (v := ?_) rfl rfl (fun wx hS => ?_) ?_
 rotate_left 1
 ·(have hc := (b0R (HB.out.still (St.fr hS)) _ H0.out); clear hS; go_simp; with_reducible rfl)
 try simp only [clL]
 refine a0n rfl rfl apW ?_
 try simp only [clL]
 refine a0n rfl rfl apW ?_
 try simp only [clL]
 refine a0n rfl rfl apW ?_
 try simp only [clL]
 refine a0R rfl rfl rfl rfl (cw 4 (tlN l)) (fun wx hS => St.rangeL hS 1 rfl 0 _ dZl) Tryz.underlying108 rfl ap4 ?_
 try simp only [clL]
 refine a0n rfl rfl apW ?_
 try simp only [clL]
 refine a0n rfl rfl apW ?_
 try simp only [clL]
 refine a0n rfl rfl apW ?_
 try simp only [clL]
 refine d0m (v := ?_) rfl rfl (fun wx hS => ?_) ?_
 rotate_left 1
 ·(have hc := (HCV.out.keep (St.fr hS) id).cell (i := 0) rfl; clear hS; go_simp; with_reducible rfl)
 try simp only [clL]
 refine a0n rfl rfl apW ?_
 try simp only [clL]
 refine a0n rfl rfl apW ?_
 try simp only [clL]
 refine a0R rfl rfl rfl rfl (cw 4 m.M) (fun wx hS => (HPM.out.keep (St.fr hS) id).range 0 _ (n0b m)) Tryz.underlying108 rfl ap4 ?_
 try simp only [clL]
 refine c0f rfl rfl ?_
 go_simp
 refine (i0Q (tlN l) m.M _ HTN.out HOK.out.lt false HDL.out).mono ?_
 rintro e' w5 ⟨rfl, hf5⟩
 have st5 := hd4.keep hf5
 clear hf5
 clear hd4
 refine ⟨st5, ?_⟩
 try simp only [clL]
 refine a0n rfl rfl apW ?_
 try simp only [clL]
 refine a0n rfl rfl apW ?_
 try simp only [clL]
 refine e0J rfl rfl ?_
 go_simp
 try simp only [clL]
 refine c0R ?_
 refine NoPanic.normal ?_
 go_wp2_with (with_reducible refine wSk 48 ?_)
 refine c0M rfl rfl _ h0I ?_
 go_wp2_with (with_reducible refine wSn ?_)
 refine a0b st5 0 rfl rfl rfl rfl rfl (by first | (simp only; done) | (simp only [List.length_append, a0e]; done)) ap4 (a0Q _ _ _) ?_
 intro w6 st6
 clear st5
 have hr := st6.at 0 rfl
 have hfr := st6.fr
 clear st6
 go_wp2_with fail
 exact bodyPost_ret (a0x rfl rfl hr Tryz.underlying114 rfl ap4 rfl) rfl ⟨by unfold ptV ptL; rw [d0X]; rfl, hfr⟩
theorem p0x (m : Md) (gc gp bx by_ : Nat) (w : World) (hok : m.Ok) (hcv : Has w gc (f0C m gp bx by_) 122) (hpm : Has w gp (mdL m) 185) (a : Option Addr) (n c : Nat) (l : List UInt8) (hb : RdB w a n l) (hc : n ≤ c) (h33 : l.length = 33) (h0 : (bs l)[0]? = some (.int .u8 3)) (hlt : decide (tlN l < m.M) = true) (r : Bool) (hr : b0Q m.M (e0I (tlN l)) = r) :
  Calls Tryz.prog 136 #[.pointer (some ⟨gc, 0, none⟩), .slice a n c] w fun e w' => e = .returned (.tuple #[ptV m (tlN l) (m.M - (atY m.M (tlN l)) % m.M) 1, .bool r]) ∧ Fr Nob w w' := by
 have HOK := Lib.hid hok
 have HCV := Lib.hid hcv
 have HPM := Lib.hid hpm
 clear hok hcv hpm
 have h33n : n = 33 := by have := hb.len; omega
 subst h33n
 obtain ⟨ba, oa, rfl, -⟩ := Rd.at hb ap12
 have HB := Lib.hid hb
 have HC := Lib.hid hc
 have HT := Lib.hid (RdB.tail hb c ap12 hc)
 have H0 := Lib.hid h0
 have HTN := Lib.hid (j0Q l h33)
 clear hb hc h33 h0
 have HDL := Lib.hid hlt
 clear hlt
 have HR := Lib.hid hr
 clear hr
 have st0 := St.start Nob w
 go_enter Tryz.func136, Tryz.ntmps136
 go_wp2_with (with_reducible refine wSk 4 ?_)
 refine a0a st0 rfl rfl (z := .agg (List.replicate 12 (.int .u64 0)).toArray) ap11 (cw 4 0 ++ (cw 4 0 ++ cw 4 0)) ap9 ?_
 intro g4 w1 st1
 clear st0
 have hne : (((33 : Nat) : Int) != 33) = false := by rfl
 go_wp2_with (with_reducible refine wSk 14 ?_)
 refine h0V rfl rfl Tryz.underlying22 f0r rfl 1 33 ⟨_, rfl⟩ rfl ap12 HC.out ?_
 rw [show (33 : Nat) - 1 = 32 from rfl]
 go_wp2_with fail
 refine (g0Z _ _ l _ (HT.out.still st1.fr)).mono ?_
 rintro e' w2 ⟨rfl, hf2⟩
 have st2 := st1.keep hf2
 clear st1 hf2
 go_wp2_with (with_reducible refine wSk 6 ?_)
 refine a0a st2 rfl rfl (z := zAd) ap11 (cw 4 0) ap9 ?_
 intro g6 w3 st3
 clear st2
 go_wp2_with (with_reducible refine wSn ?_)
 refine a0b st3 1 rfl rfl rfl rfl rfl ap5 ap4 (a0g _ _) ?_
 intro w4 st4
 clear st3
 have hcell := b0R (HB.out.still st4.fr) _ H0.out
 go_wp2_with fail
 clear hcell
 go_wp2_with fail
 refine wp_region_noPanic ?_
 refine b0d (fun wx => St Nob w wx [(g4, cw 4 0 ++ (cw 4 0 ++ cw 4 0), 114), (g6, cw 4 (tlN l), 108)]) 22 (.w 0 (.w 1 (.t 2 (.w 3 (.w 4 (.w 5 (.w 6 (.t 7 (.w 8 (.w 9 (.w 10 (.t 11 (.w 12 (.w 13 (.w 14 (.t 15 (.w 16 (.w 17 (.t 18 (.r 19 (.w 20 (.w 21 (.m 22 .nil))))))))))))))))))))))) ap11 ap11 st4.drew (fun _ _ _ _ _ h => h) ?_
 have hd4 := st4.drew
 clear st4
 refine a0n rfl rfl apW ?_
 try simp only [clL]
 refine a0n rfl rfl apW ?_
 try simp only [clL]
 refine d0m (v := ?_) rfl rfl (fun wx hS => ?_) ?_
 rotate_left 1
 ·(have hc := (b0R (HB.out.still (St.fr hS)) _ H0.out); clear hS; go_simp; with_reducible rfl)
 try simp only [clL]
 refine a0n rfl rfl apW ?_
 try simp only [clL]
 refine a0n rfl rfl apW ?_
 try simp only [clL]
 refine a0n rfl rfl apW ?_
 try simp only [clL]
 refine a0n rfl rfl apW ?_
 try simp only [clL]
 refine d0m (v := ?_) rfl rfl (fun wx hS => ?_) ?_
 rotate_left 1
 ·(have hc := (b0R (HB.out.still (St.fr hS)) _ H0.out); clear hS; go_simp; with_reducible rfl)
 try simp only [clL]
 refine a0n rfl rfl apW ?_
 try simp only [clL]
 refine a0n rfl rfl apW ?_
 try simp only [clL]
 refine a0n rfl rfl apW ?_
 try simp only [clL]
 refine a0R rfl rfl rfl rfl (cw 4 (tlN l)) (fun wx hS => St.rangeL hS 1 rfl 0 _ dZl) Tryz.underlying108 rfl ap4 ?_
 try simp only [clL]
 refine a0n rfl rfl apW ?_
 try simp only [clL]
 refine a0n rfl rfl apW ?_
 try simp only [clL]
 refine a0n rfl rfl apW ?_
 try simp only [clL]
 refine d0m (v := ?_) rfl rfl (fun wx hS => ?_) ?_
 rotate_left 1
 ·(have hc := (HCV.out.keep (St.fr hS) id).cell (i := 0) rfl; clear hS; go_simp; with_reducible rfl)
 try simp only [clL]
 refine a0n rfl rfl apW ?_
 try simp only [clL]
 refine a0n rfl rfl apW ?_
 try simp only [clL]
 refine a0R rfl rfl rfl rfl (cw 4 m.M) (fun wx hS => (HPM.out.keep (St.fr hS) id).range 0 _ (n0b m)) Tryz.underlying108 rfl ap4 ?_
 try simp only [clL]
 refine c0f rfl rfl ?_
 go_simp
 refine (i0Q (tlN l) m.M _ HTN.out HOK.out.lt true HDL.out).mono ?_
 rintro e' w5 ⟨rfl, hf5⟩
 have st5 := hd4.keep hf5
 clear hf5
 clear hd4
 refine ⟨st5, ?_⟩
 try simp only [clL]
 refine a0n rfl rfl apW ?_
 try simp only [clL]
 refine a0n rfl rfl apW ?_
 try simp only [clL]
 refine e0J rfl rfl ?_
 go_simp
 try simp only [clL]
 refine c0R ?_
 refine NoPanic.normal ?_
 go_wp2_with fail
 refine wp_region_noPanic ?_
 refine a0o (fun wx => St Nob w wx [(g4, cw 4 0 ++ (cw 4 0 ++ cw 4 0), 114), (g6, cw 4 (tlN l), 108)]) 13 (.w 0 (.w 1 (.w 2 (.w 3 (.t 4 (.t 5 (.b 6 11 (.b 7 11 (.w 8 (.w 9 (.w 10 (.r 11 (.r 12 (.m 13 .nil)))))) (.r 7 (.w 8 (.w 9 (.w 10 (.r 12 (.m 13 .nil))))))) (.r 6 (.r 7 (.w 8 (.w 9 (.w 10 (.r 12 (.m 13 .nil)))))))))))))) ap11 ap11 st5.drew (fun _ _ _ _ _ h => h) ?_
 have hd5 := st5.drew
 clear st5
 refine a0k rfl rfl apW ?_
 try simp only [clL]
 refine a0k rfl rfl apW ?_
 try simp only [clL]
 refine a0k rfl rfl apW ?_
 try simp only [clL]
 refine a0k rfl rfl apW ?_
 try simp only [clL]
 refine d0T (v := ?_) rfl rfl (fun wx hS => ?_) ?_
 rotate_left 1
 ·(have hc := (HCV.out.keep (St.fr hS) id).cell (i := 0) rfl; clear hS; go_simp; with_reducible rfl)
 try simp only [clL]
 refine a0s rfl rfl rfl rfl (cw 4 (tlN l)) (fun wx hS => St.rangeL hS 1 rfl 0 _ dZl) Tryz.underlying108 rfl ap4 ?_
 try simp only [clL]
 refine e0Y (C := fun g7 wz => St Nob w wz [(g4, cw 4 0 ++ (cw 4 0 ++ cw 4 0), 114), (g6, cw 4 (tlN l), 108), (g7, cw 4 (elN m (tlN l)) ++ (cw 4 (elN m (atY m.M (tlN l))) ++ cw 4 (elN m 1)), 114)]) (F := ?_) (fun key => ?_) ?_
 rotate_left 1
 ·skip
  refine e0B rfl rfl rfl rfl ?_ ?_
  ·skip
   go_simp
   refine (d0Y m gp _ HOK.out (HPM.out.keep hd5.fr id) (tlN l) HTN.out).mono ?_
   rintro e' w6 ⟨rfl, hf6⟩
   have st6 := hd5.keep hf6
   clear hf6
   refine ⟨st6, ?_⟩
   try simp only [clL]
   refine e0B rfl rfl rfl rfl ?_ ?_
   ·skip
    go_simp
    refine (A0w m gc gp bx by_ _ HOK.out (HCV.out.keep st6.fr id) (HPM.out.keep st6.fr id) (tlN l) r HR.out).mono ?_
    rintro e' w7 ⟨rfl, hf7⟩
    have st7 := st6.keep hf7
    clear hf7
    refine ⟨st7, ?_⟩
    try simp only [clL]
    refine a0k rfl rfl apW ?_
    try simp only [clL]
    refine a0k rfl rfl apW ?_
    try simp only [clL]
    refine a0k rfl rfl apW ?_
    try simp only [clL]
    refine a0y rfl rfl ?_
    refine b0k st7 rfl (z := zAc) ap11 (cw 12 0) ap9 ?_
    intro g7 w8 st8
    refine ⟨St.less st8 ap14, ?_⟩
    try simp only [clL]
    refine a0y rfl rfl ?_
    refine a0h st8 2 rfl rfl rfl rfl ap5 ap4 (a0Q _ _ _) ?_
    intro w9 st9
    refine ⟨St.less st9 ap14, ?_⟩
    try simp only [Act.put]
    refine a0r rfl rfl ?_
    go_simp
    try simp only [clL]
    refine a0j ?_
    exact key g7 _ st9
   ·skip
    refine b0k st6 rfl (z := zAc) ap11 (cw 12 0) ap9 ?_
    intro g7 w10 st10
    refine ⟨St.less st10 ap14, ?_⟩
    try simp only [clL]
    refine a0y rfl rfl ?_
    go_simp
    refine (A0w m gc gp bx by_ _ HOK.out (HCV.out.keep st10.fr id) (HPM.out.keep st10.fr id) (tlN l) r HR.out).mono ?_
    rintro e' w11 ⟨rfl, hf11⟩
    have st11 := st10.keep hf11
    clear hf11
    refine ⟨St.less st11 ap14, ?_⟩
    try simp only [clL]
    refine a0k rfl rfl apW ?_
    try simp only [clL]
    refine a0k rfl rfl apW ?_
    try simp only [clL]
    refine a0k rfl rfl apW ?_
    try simp only [clL]
    refine a0y rfl rfl ?_
    refine a0h st11 2 rfl rfl rfl rfl ap5 ap4 (a0Q _ _ _) ?_
    intro w12 st12
    refine ⟨St.less st12 ap14, ?_⟩
    try simp only [Act.put]
    refine a0r rfl rfl ?_
    go_simp
    try simp only [clL]
    refine a0j ?_
    exact key g7 _ st12
  ·skip
   refine b0k hd5 rfl (z := zAc) ap11 (cw 12 0) ap9 ?_
   intro g7 w13 st13
   refine ⟨St.less st13 ap14, ?_⟩
   try simp only [clL]
   refine a0y rfl rfl ?_
   go_simp
   refine (d0Y m gp _ HOK.out (HPM.out.keep st13.fr id) (tlN l) HTN.out).mono ?_
   rintro e' w14 ⟨rfl, hf14⟩
   have st14 := st13.keep hf14
   clear hf14
   refine ⟨St.less st14 ap14, ?_⟩
   try simp only [clL]
   refine a0y rfl rfl ?_
   go_simp
   refine (A0w m gc gp bx by_ _ HOK.out (HCV.out.keep st14.fr id) (HPM.out.keep st14.fr id) (tlN l) r HR.out).mono ?_
   rintro e' w15 ⟨rfl, hf15⟩
   have st15 := st14.keep hf15
   clear hf15
   refine ⟨St.less st15 ap14, ?_⟩
   try simp only [clL]
   refine a0k rfl rfl apW ?_
   try simp only [clL]
   refine a0k rfl rfl apW ?_
   try simp only [clL]
   refine a0k rfl rfl apW ?_
   try simp only [clL]
   refine a0y rfl rfl ?_
   refine a0h st15 2 rfl rfl rfl rfl ap5 ap4 (a0Q _ _ _) ?_
   intro w16 st16
   refine ⟨St.less st16 ap14, ?_⟩
   try simp only [Act.put]
   refine a0r rfl rfl ?_
   go_simp
   try simp only [clL]
   refine a0j ?_
   exact key g7 _ st16
 intro g7 w17 st17
 have st17 : St Nob w w17 [(g4, cw 4 0 ++ (cw 4 0 ++ cw 4 0), 114), (g6, cw 4 (tlN l), 108), (g7, cw 4 (elN m (tlN l)) ++ (cw 4 (elN m (atY m.M (tlN l))) ++ cw 4 (elN m 1)), 114)] := st17
 clear hd5
 refine NoPanic.normal ?_
 have hcell := b0R (HB.out.still st17.fr) _ H0.out
 go_wp2_with (with_reducible refine wSk 65 ?_)
 refine a0m st17 2 rfl rfl rfl Tryz.underlying114 rfl rfl ap4 ?_
 clear hcell
 go_wp2_with fail
 refine (q0X m gc gp bx by_ _ HOK.out (HCV.out.keep st17.fr id) (HPM.out.keep st17.fr id) (tlN l) (atY m.M (tlN l)) 1).mono ?_
 rintro e' w18 ⟨rfl, hf18⟩
 have st18 := st17.keep hf18
 clear st17 hf18
 go_wp2_with (with_reducible refine wSn ?_)
 refine a0b st18 2 rfl rfl rfl rfl rfl ap5 ap4 (a0Q _ _ _) ?_
 intro w19 st19
 clear st18
 go_wp2_with (with_reducible refine wSk 67 ?_)
 refine a0m st19 2 rfl rfl rfl Tryz.underlying114 rfl rfl ap4 ?_
 go_wp2_with (with_reducible refine wSn ?_)
 refine a0b st19 0 rfl rfl rfl rfl rfl ap5 ap4 (a0Q _ _ _) ?_
 intro w20 st20
 clear st19
 have hr := st20.at 0 rfl
 have hfr := st20.fr
 clear st20
 go_wp2_with fail
 exact bodyPost_ret (a0x rfl rfl hr Tryz.underlying114 rfl ap4 rfl) rfl ⟨by unfold ptV ptL; rfl, hfr⟩
end Go.Proofs.YtmebmhjppmfbbaaGreat


set_option maxHeartbeats 16000000
set_option maxRecDepth 1000000
namespace Go.Proofs.YtmebmhjppmfbbaaGreat
open Go.RowKit Go.Mv Mvp Mvq
theorem k0Z (l : List UInt8) (h : l.length = 33) (b : UInt8) (hb : l.getD 0 0 = b) : (bs l)[0]? = some (.int .u8 (b.toNat : Int)) := by
 cases l with
 | nil => cases h
 | cons x t =>
  have : x = b := by simpa using hb
  subst this
  rfl
theorem z0w {b : UInt8} {k : Nat} (h : b.toNat = k) : b = UInt8.ofNat k := by rw [← h]; simp
theorem l0a (l : List UInt8) (h : l.length = 33) (hb : l.getD 0 0 = 2) : (bs l)[0]? = some (.int .u8 2) := by rw [k0Z l h 2 hb]; rfl
theorem l0b (l : List UInt8) (h : l.length = 33) (hb : l.getD 0 0 = 3) : (bs l)[0]? = some (.int .u8 3) := by rw [k0Z l h 3 hb]; rfl
theorem p0y (l : List UInt8) (h : l.length = 33) (hb : l.getD 0 0 = 0) : (bs l)[0]? = some (.int .u8 0) := by rw [k0Z l h 0 hb]; rfl
theorem t0t (b : Nat) : kc (mP.M - b % mP.M) = - kc b := by rw [d0x]; exact n0S b
theorem D0l (n : Nat) (hr : b0Q mP.M (e0I n) = true) : kc (atY mP.M n) = kc (rtV fP (e0I n)) := by unfold atY; rw [if_pos hr, d0x]
theorem x0L (x y : Nat) (h : onC (.A (kc x) (kc y))) : (t0d x y h).L = ptL mP x y 1 := rfl
attribute [local irreducible] atY rtV b0Q ptL e0I tlN t0d
theorem n0Z (l : List UInt8) (h : b0D l = true) : ∃ t : PT, t.pt = c0r l ∧ ∀ (gc : Nat) (a : Option Addr) (n c : Nat) (w : World), Cv w gc → RdB w a n l → n ≤ c →
  Calls Tryz.prog 136 #[.pointer (some ⟨gc, 0, none⟩), .slice a n c] w fun e w' => e = .returned (.tuple #[.agg t.L.toArray, .bool true]) ∧ Fr Nob w w' := by
 have hon := m0I h
 unfold b0D at h
 unfold c0r at *
 simp only [Bool.and_eq_true, decide_eq_true_eq] at h
 obtain ⟨h33, h⟩ := h
 by_cases h0 : l.getD 0 0 = 0
 ·rw [if_pos h0] at h
  refine ⟨noT, by rw [if_pos h0, t0c], ?_⟩
  rintro gc a n c w ⟨gp, h1, h2⟩ hb hc
  exact m0N mP gc gp gXn gYn w c0w h1 h2 a n c l hb hc h33 (p0y l h33 h0) true h
 ·rw [if_neg h0] at h hon
  simp only [Bool.and_eq_true, decide_eq_true_eq] at h
  obtain ⟨h23, hlt, hr⟩ := h
  rw [← d0x] at hlt hr
  have hy := D0l _ hr
  rcases h23 with h2 | h3
  ·have h3 : ¬ l.getD 0 0 = 3 := by rw [h2]; decide
   rw [if_neg h3, ← hy] at hon
   refine ⟨t0d (tlN l) (atY mP.M (tlN l)) hon, ?_, ?_⟩
   ·rw [n0Y, if_neg h0, if_neg h3, hy]
   ·rintro gc a n c w ⟨gp, g1, g2⟩ hb hc
    rw [x0L]
    exact p0w mP gc gp gXn gYn w c0w g1 g2 a n c l hb hc h33 (l0a l h33 h2) (decide_eq_true hlt) true hr
  ·rw [if_pos h3, ← hy, ← t0t] at hon
   refine ⟨t0d (tlN l) (mP.M - atY mP.M (tlN l) % mP.M) hon, ?_, ?_⟩
   ·rw [n0Y, if_neg h0, if_pos h3, t0t, hy]
   ·rintro gc a n c w ⟨gp, g1, g2⟩ hb hc
    rw [x0L]
    exact p0x mP gc gp gXn gYn w c0w g1 g2 a n c l hb hc h33 (l0b l h33 h3) (decide_eq_true hlt) true hr
open Classical in
noncomputable def rdT (l : List UInt8) : PT := if h : b0D l = true then Classical.choose (n0Z l h) else noT
theorem x0M {l : List UInt8} (h : b0D l = true) : (rdT l).pt = c0r l := by unfold rdT; rw [dif_pos h]; exact (Classical.choose_spec (n0Z l h)).1
theorem m0O (l : List UInt8) (h : b0D l = true) (gc : Nat) (a : Option Addr) (n c : Nat) (w : World) (hcv : Cv w gc) (hb : RdB w a n l) (hc : n ≤ c) :
  Calls Tryz.prog 136 #[.pointer (some ⟨gc, 0, none⟩), .slice a n c] w fun e w' => e = .returned (.tuple #[.agg (rdT l).L.toArray, .bool true]) ∧ Fr Nob w w' := by
 unfold rdT; rw [dif_pos h]; exact (Classical.choose_spec (n0Z l h)).2 gc a n c w hcv hb hc
theorem t0u (l : List UInt8) (h : b0D l = false) (gc : Nat) (a : Option Addr) (n c : Nat) (w : World) (hcv : Cv w gc) (hb : RdB w a n l) (hc : n ≤ c) :
  Calls Tryz.prog 136 #[.pointer (some ⟨gc, 0, none⟩), .slice a n c] w fun e w' => (∃ X Y Z, e = .returned (.tuple #[.agg (ptL mP X Y Z).toArray, .bool false])) ∧ Fr Nob w w' := by
 obtain ⟨gp, g1, g2⟩ := hcv
 unfold b0D at h
 by_cases h33 : l.length = 33
 ·rw [decide_eq_true h33, Bool.true_and] at h
  by_cases h0 : l.getD 0 0 = 0
  ·rw [if_pos h0] at h
   exact (m0N mP gc gp gXn gYn w c0w g1 g2 a n c l hb hc h33 (p0y l h33 h0) false h).mono fun _ _ t => ⟨⟨_, _, _, t.1⟩, t.2⟩
  ·rw [if_neg h0] at h
   by_cases h2 : l.getD 0 0 = 2
   ·rw [decide_eq_true (Or.inl h2), Bool.true_and] at h
    cases hlt : decide (tlN l < mP.M) with
    | false => exact (w0l mP gc gp gXn gYn w c0w g1 g2 a n c l hb hc h33 (l0a l h33 h2) hlt).mono fun _ _ t => ⟨⟨_, _, _, t.1⟩, t.2⟩
    | true =>
     rw [← d0x, hlt, Bool.true_and] at h
     exact (p0w mP gc gp gXn gYn w c0w g1 g2 a n c l hb hc h33 (l0a l h33 h2) hlt false h).mono fun _ _ t => ⟨⟨_, _, _, t.1⟩, t.2⟩
   ·by_cases h3 : l.getD 0 0 = 3
    ·rw [decide_eq_true (Or.inr h3), Bool.true_and] at h
     cases hlt : decide (tlN l < mP.M) with
     | false => exact (w0m mP gc gp gXn gYn w c0w g1 g2 a n c l hb hc h33 (l0b l h33 h3) hlt).mono fun _ _ t => ⟨⟨_, _, _, t.1⟩, t.2⟩
     | true =>
      rw [← d0x, hlt, Bool.true_and] at h
      exact (p0x mP gc gp gXn gYn w c0w g1 g2 a n c l hb hc h33 (l0b l h33 h3) hlt false h).mono fun _ _ t => ⟨⟨_, _, _, t.1⟩, t.2⟩
    ·have q0 : (((l.getD 0 0).toNat : Int) == 0) = false := by
      simp only [beq_eq_false_iff_ne, ne_eq]
      intro e
      exact h0 (z0w (k := 0) ap13)
     have q2 : (((l.getD 0 0).toNat : Int) != 2) = true := by
      simp only [bne_iff_ne, ne_eq]
      intro e
      exact h2 (z0w (k := 2) ap13)
     have q3 : (((l.getD 0 0).toNat : Int) != 3) = true := by
      simp only [bne_iff_ne, ne_eq]
      intro e
      exact h3 (z0w (k := 3) ap13)
     exact (w0k mP gc gp gXn gYn w c0w g1 g2 a n c l hb hc h33 _ (k0Z l h33 _ rfl) q0 q2 q3).mono fun _ _ t => ⟨⟨_, _, _, t.1⟩, t.2⟩
 ·exact (w0j mP gc gp gXn gYn w c0w g1 g2 a n c l hb hc h33).mono fun _ _ t => ⟨⟨_, _, _, t.1⟩, t.2⟩
theorem B0E (z : Nat) : kc (z ^ (mP.M - 2)) = c0E (kc z) := by
 rw [show mP.M - 2 = fP - 2 by rw [d0x]]
 unfold c0E
 rw [f0p]
 generalize fP - 2 = n
 rw [← e0o (z ^ n), ← e0o ((z % fP) ^ n), ← Nat.pow_mod]
theorem B0F (x y : K) : b0C (.A x y) = UInt8.ofNat (2 + y.val % 2) :: b0c x.val := rfl
theorem o0a (s : PT) (gc : Nat) (w : World) (hcv : Cv w gc) :
  Calls Tryz.prog 84 #[.pointer (some ⟨gc, 0, none⟩), .agg s.L.toArray] w fun e w' => ∃ sv, e = .returned sv ∧ Own w' w.heap.size 5 1 sv 33 (bs (b0C s.pt)) ∧ Fr Nob w w' := by
 obtain ⟨gp, g1, g2⟩ := hcv
 cases hz : s.isO with
 | true =>
  rw [PT.isO_t hz]
  exact q0W mP gc gp gXn gYn w c0w g1 g2 s.x s.y s.z hz
 | false =>
  have hne := PT.isO_f hz
  have e : s.pt = .A (kc (s.x * (s.z ^ (mP.M - 2) * s.z ^ (mP.M - 2)))) (kc (s.y * (s.z ^ (mP.M - 2) * s.z ^ (mP.M - 2) * s.z ^ (mP.M - 2)))) := by
   show jk _ _ _ = _
   rw [v0S hne]
   simp only [a0F, B0E]
  rw [e]
  have hb := z0v mP gc gp gXn gYn w c0w g1 g2 s.x s.y s.z hz _ _ _ _ _ _ _ rfl rfl rfl rfl rfl rfl rfl
  refine hb.mono ?_
  rintro e' w' ⟨sv, h1, h2, h3⟩
  refine ⟨sv, h1, ?_, h3⟩
  rw [B0F, f0p, f0p, ← d0x]
  exact h2
end Go.Proofs.YtmebmhjppmfbbaaGreat


set_option maxHeartbeats 16000000
set_option maxRecDepth 1000000
namespace Go.Proofs.YtmebmhjppmfbbaaGreat
open Go.RowKit Go.Mv Mvp Mvq
def d0q (ls : List (List UInt8)) : Bool := ls.all b0D
noncomputable def e0N (ls : List (List UInt8)) : List Value := ls.flatMap fun l => (rdT l).L
theorem o0b (m : Md) (x y z : Nat) : ∀ v ∈ ptL m x y z, v.oneCell' = true := a0Q _ _ _
theorem g0D (ls : List (List UInt8)) (l : List UInt8) : e0N (ls ++ [l]) = e0N ls ++ (rdT l).L := by simp [e0N]
theorem t0v (ls : List (List UInt8)) (i : Nat) (h : i < ls.length) : ((e0N ls).drop (i * 12)).take (rdT (ls.getD i [])).L.length = (rdT (ls.getD i [])).L := by
 rw [PT.len]
 induction ls generalizing i with
 | nil => simp at h
 | cons l ls ih =>
  rw [e0N, List.flatMap_cons, ← e0N]
  cases i with
  | zero =>
   rw [Nat.zero_mul, List.drop_zero, List.take_append_of_le_length (by rw [PT.len]; exact Nat.le_refl _), List.take_of_length_le (by rw [PT.len]; exact Nat.le_refl _)]
   rfl
  | succ i =>
   rw [List.drop_append, PT.len, List.drop_of_length_le (by rw [PT.len]; omega), List.nil_append, show (i + 1) * 12 - 12 = i * 12 by omega, ih i (by simpa using h)]
   rfl
theorem g0E (ls : List (List UInt8)) (k : Nat) (h : k < ls.length) : d0q (ls.take (k + 1)) = (d0q (ls.take k) && b0D (ls.getD k [])) := by
 rw [List.take_succ_eq_append_getElem h, d0q, List.all_append, ← d0q]
 simp [List.getD_eq_getElem?_getD, h]
theorem h0J (ls : List (List UInt8)) (k : Nat) (h : k < ls.length) (hb : b0D (ls.getD k []) = false) : d0q ls = false := by
 rw [d0q, List.all_eq_false]
 refine ⟨ls.getD k [], ?_, by simpa using hb⟩
 rw [List.getD_eq_getElem?_getD, List.getElem?_eq_getElem h]
 exact List.getElem_mem h
theorem f0e : (Tryz.prog.info? 114).map (fun i => (i.zero, i.size, i.bytes)) = some (some (.agg (List.replicate 12 (.int .u64 0)).toArray), 12, 96) := by kernel_rfl
attribute [local irreducible] a0E lw mix cw b0o b0x b0l a0L a0q beN b0F b0c b0z a0J a0N elN mdL b0e rtN rtV b0Q gXn gYn PT.L l0r k0V f0v tbL tmR tmL dbN h0H h0q i0N dig rdT b0D c0r ptL e0N d0q b0C
theorem _root_.ap2 {p : Prop} (h : p := by first | (simp only [a0e]; done) | (simp only [List.length_append, a0e, PT.len, e0D]; done)) : p := h
theorem l0c (gk : Nat) (al : Option Addr) (n cl : Nat) (vs : List Value) (ls : List (List UInt8)) (w : World) (hv : Rd w al n vs) (hp : BParts w vs ls) (hn : n ≤ 100000) (hg : d0q ls = true) (t : PT) (hop : ∀ ap cp wx, Fr Nob w wx → Rd wx ap (ls.length * 12) (e0N ls) → Calls Tryz.prog 81 #[.slice ap ls.length cp, .pointer (some ⟨gk, 0, none⟩)] wx fun e w' => e = .returned (.agg t.L.toArray) ∧ Fr Nob wx w') :
  Calls Tryz.prog 80 #[.func (.func 81) #[] #[.pointer (some ⟨gk, 0, none⟩)], .slice al n cl] w fun e w' => ∃ sv, e = .returned (.tuple #[sv, .int .i64 0]) ∧ Own w' w.heap.size 5 1 sv 33 (bs (b0C t.pt)) ∧ Fr Nob w w' := by
 have HV := Lib.hid hv
 have HP := Lib.hid hp
 have HL := Lib.hid (show ls.length = n by rw [← hp.1, hv.len])
 have HN := Lib.hid hn
 have hnI : (n : Int) ≤ 100000 := by omega
 clear hv hp
 have HOP := Lib.hid hop
 have HGA := Lib.hid hg
 clear hop hg
 go_enter Tryz.func80, Tryz.ntmps80
 go_wp2
 go_loopw [6, 13] (fun v i wr => ∃ k : Nat, k ≤ n ∧ i = .int .i64 (k : Int) ∧ d0q (ls.take k) = true ∧ Own wr w.heap.size 114 12 v k (e0N (ls.take k)) ∧ Fr Nob w wr) (fun _ i _ => n - (intOf i).toNat)
 case atStart => exact ⟨0, Nat.zero_le _, rfl, by rw [List.take_zero]; unfold d0q; rfl, by rw [List.take_zero]; unfold e0N; exact Own.nil _ _ _ _, Fr.refl _ _⟩
 case round =>
  obtain ⟨k, hk, rfl, hgood, hown, hf⟩ := hrel
  by_cases hlt : k < n
  ·have hltI : (k : Int) < (n : Int) := by omega
   obtain ⟨b, o, rfl, hat⟩ := (HV.out.still hf).at ap13
   have hvl : k < vs.length := by rw [HV.out.len]; exact hlt
   obtain ⟨a, nn, c, hve, hcc, hrd⟩ := HP.out.2 k (vs[k]'hvl) (List.getElem?_eq_getElem hvl)
   have hc1 := hat k _ (List.getElem?_eq_getElem hvl)
   rw [hve] at hc1
   have hlk : k < ls.length := by rw [HL.out]; exact hlt
   have hts := g0E ls k hlk
   have hcs : e0N (ls.take (k + 1)) = e0N (ls.take k) ++ (rdT (ls.getD k [])).L := by
    rw [List.take_succ_eq_append_getElem hlk, g0D]
    simp [List.getD_eq_getElem?_getD, hlk]
   have hbad := h0J ls k hlk
   generalize hL : ls.getD k [] = l at *
   have HLL := Lib.hid hL
   have HRD := Lib.hid (hrd.still hf)
   have HTS := Lib.hid hts
   have HCS := Lib.hid hcs
   have HBAD := Lib.hid hbad
   have HG := Lib.hid hgood
   have HOWN := Lib.hid hown
   have HF := Lib.hid hf
   have HCC := Lib.hid hcc
   clear hL hrd hts hcs hbad hgood hown hf hat hve hcc
   have st0 := St.start Nob wr
   have HK := Lib.hid (show b0D l = true by
    cases hh : b0D l
    ·have := HBAD.out hh
     rw [HGA.out] at this
     cases this
    ·rfl)
   skip
   go_wp2_with fail
   refine (d0V _).mono ?_
   rintro e' w1 ⟨gc, rfl, hle, hcv, hf1⟩
   have st1 := st0.keep hf1
   have HCV := Lib.hid hcv
   clear hcv hle
   clear st0 hf1
   go_wp2_with fail
   refine (m0O l HK.out gc a nn c _ HCV.out (HRD.out.still st1.fr) HCC.out).mono ?_
   rintro e' w2 ⟨rfl, hf2⟩
   have st2 := st1.keep hf2
   clear st1 hf2
   go_wp2_with (with_reducible refine wSk 9 ?_)
   refine a0a st2 rfl rfl (z := .agg (List.replicate 12 (.int .u64 0)).toArray) ap11 (cw 12 0) ap9 ?_
   intro g9 w3 st3
   clear st2
   go_wp2_with (with_reducible refine wSn ?_)
   refine a0b st3 0 rfl rfl rfl rfl rfl ap2 ap6 (PT.one _) ?_
   intro w4 st4
   clear st3
   have HFS := Lib.hid st4.fr
   go_wp2_with (with_reducible refine wSk 26 ?_)
   refine a0m st4 0 rfl rfl rfl Tryz.underlying114 rfl rfl ap6 ?_
   clear st4
   go_wp2_with (with_reducible refine wSk 27 ?_)
   refine g0u rfl rfl Tryz.underlying112 f0e [.agg (rdT l).L.toArray] rfl (by simp [Value.cells, PT.len]) rfl ((rdT l).L) (by simp [Value.cells]) ?_
   intro wA hgA hfA hzA
   clear hzA
   have hfrA := HFS.out.then hfA
   have hsz := HF.out.size
   have hsz2 := hfrA.size
   have hownA := HOWN.out.still hfrA
   have hrdA : Rd wA (some ⟨w4.heap.size, 0, none⟩) (1 * 12) ((rdT l).L) := by
    have := Rd.whole hgA
    rwa [PT.len] at this
   have HRDA := Lib.hid hrdA
   have HOWNA := Lib.hid hownA
   have HFRA := Lib.hid hfrA
   clear hgA hfA hrdA hownA hfrA
   generalize w4.heap.size = gA at *
   go_wp2_with (with_reducible refine wSk 28 ?_)
   refine d0c rfl rfl Tryz.underlying112 f0e rfl ap12 HOWNA.out rfl rfl HRDA.out (PT.one _) ap8 ap13 ap13 ?_
   intro vB wB hownB hfB hbB
   clear hbB
   have hfrB := HOWNA.out.fr (HF.out.then HFRA.out) (Nat.le_refl _) hfB
   have HFRB := Lib.hid hfrB
   rw [← HCS.out] at hownB
   have HOWNB := Lib.hid hownB
   clear hfrB hownB hfB
   go_wp2_with fail
   go_roundw
   case rel => exact ⟨k + 1, by omega, by go_num, by rw [HTS.out, HG.out, HK.out]; rfl, HOWNB.out, HFRB.out⟩
   case measure => simp [intOf]; omega
  ·have hge : ¬ ((k : Int) < (n : Int)) := by omega
   have hkn : k = ls.length := by rw [HL.out]; omega
   rw [hkn, List.take_of_length_le (Nat.le_refl _)] at hgood hown
   obtain ⟨ap, cp, rfl, -, hre, -⟩ := hown.form
   have HRE := Lib.hid hre
   have HF := Lib.hid hf
   clear hkn hgood hown hf hre
   go_wp2_with fail
   refine (d0V _).mono ?_
   rintro e w1 ⟨gc, rfl, hle, hcv, hf1⟩
   have HCV := Lib.hid hcv
   have HF1 := Lib.hid (HF.out.then hf1)
   have HRE1 := Lib.hid (HRE.out.still hf1)
   clear hle hcv hf1 HF HRE
   go_wp2_with fail
   refine (HOP.out ap cp _ HF1.out HRE1.out).mono ?_
   rintro e w2 ⟨rfl, hf2⟩
   have HCV2 := Lib.hid (HCV.out.keep hf2)
   have HF2 := Lib.hid (HF1.out.then hf2)
   clear hf2 HF1 HRE1 HCV
   go_wp2_with fail
   refine (o0a t gc _ HCV2.out).mono ?_
   rintro e w3 ⟨sv, rfl, hown3, hf3⟩
   have h2 := HF2.out.then hf3
   have ho := hown3.mono HF2.out.size
   clear hown3 hf3 HF2 HCV2
   go_wp2_with fail
   go_ret2
   exact ⟨sv, rfl, ho, h2⟩
theorem j0i (gk : Nat) (al : Option Addr) (n cl : Nat) (vs : List Value) (ls : List (List UInt8)) (w : World) (hv : Rd w al n vs) (hp : BParts w vs ls) (hn : n ≤ 100000) (hg : d0q ls = false) :
  Calls Tryz.prog 80 #[.func (.func 81) #[] #[.pointer (some ⟨gk, 0, none⟩)], .slice al n cl] w fun e w' => e = .returned (.tuple #[.slice none 0 0, .int .i64 4]) ∧ Fr Nob w w' := by
 have HV := Lib.hid hv
 have HP := Lib.hid hp
 have HL := Lib.hid (show ls.length = n by rw [← hp.1, hv.len])
 have HN := Lib.hid hn
 have hnI : (n : Int) ≤ 100000 := by omega
 clear hv hp
 have HGA := Lib.hid hg
 clear hg
 go_enter Tryz.func80, Tryz.ntmps80
 go_wp2
 go_loopw [6, 13] (fun v i wr => ∃ k : Nat, k ≤ n ∧ i = .int .i64 (k : Int) ∧ d0q (ls.take k) = true ∧ Own wr w.heap.size 114 12 v k (e0N (ls.take k)) ∧ Fr Nob w wr) (fun _ i _ => n - (intOf i).toNat)
 case atStart => exact ⟨0, Nat.zero_le _, rfl, by rw [List.take_zero]; unfold d0q; rfl, by rw [List.take_zero]; unfold e0N; exact Own.nil _ _ _ _, Fr.refl _ _⟩
 case round =>
  obtain ⟨k, hk, rfl, hgood, hown, hf⟩ := hrel
  by_cases hlt : k < n
  ·have hltI : (k : Int) < (n : Int) := by omega
   obtain ⟨b, o, rfl, hat⟩ := (HV.out.still hf).at ap13
   have hvl : k < vs.length := by rw [HV.out.len]; exact hlt
   obtain ⟨a, nn, c, hve, hcc, hrd⟩ := HP.out.2 k (vs[k]'hvl) (List.getElem?_eq_getElem hvl)
   have hc1 := hat k _ (List.getElem?_eq_getElem hvl)
   rw [hve] at hc1
   have hlk : k < ls.length := by rw [HL.out]; exact hlt
   have hts := g0E ls k hlk
   have hcs : e0N (ls.take (k + 1)) = e0N (ls.take k) ++ (rdT (ls.getD k [])).L := by
    rw [List.take_succ_eq_append_getElem hlk, g0D]
    simp [List.getD_eq_getElem?_getD, hlk]
   have hbad := h0J ls k hlk
   generalize hL : ls.getD k [] = l at *
   have HLL := Lib.hid hL
   have HRD := Lib.hid (hrd.still hf)
   have HTS := Lib.hid hts
   have HCS := Lib.hid hcs
   have HBAD := Lib.hid hbad
   have HG := Lib.hid hgood
   have HOWN := Lib.hid hown
   have HF := Lib.hid hf
   have HCC := Lib.hid hcc
   clear hL hrd hts hcs hbad hgood hown hf hat hve hcc
   have st0 := St.start Nob wr
   rcases Bool.eq_false_or_eq_true (b0D l) with hh | hh
   ·have HK := Lib.hid hh
    clear hh
    skip
    go_wp2_with fail
    refine (d0V _).mono ?_
    rintro e' w1 ⟨gc, rfl, hle, hcv, hf1⟩
    have st1 := st0.keep hf1
    have HCV := Lib.hid hcv
    clear hcv hle
    clear st0 hf1
    go_wp2_with fail
    refine (m0O l HK.out gc a nn c _ HCV.out (HRD.out.still st1.fr) HCC.out).mono ?_
    rintro e' w2 ⟨rfl, hf2⟩
    have st2 := st1.keep hf2
    clear st1 hf2
    go_wp2_with (with_reducible refine wSk 9 ?_)
    refine a0a st2 rfl rfl (z := .agg (List.replicate 12 (.int .u64 0)).toArray) ap11 (cw 12 0) ap9 ?_
    intro g9 w3 st3
    clear st2
    go_wp2_with (with_reducible refine wSn ?_)
    refine a0b st3 0 rfl rfl rfl rfl rfl ap2 ap6 (PT.one _) ?_
    intro w4 st4
    clear st3
    have HFS := Lib.hid st4.fr
    go_wp2_with (with_reducible refine wSk 26 ?_)
    refine a0m st4 0 rfl rfl rfl Tryz.underlying114 rfl rfl ap6 ?_
    clear st4
    go_wp2_with (with_reducible refine wSk 27 ?_)
    refine g0u rfl rfl Tryz.underlying112 f0e [.agg (rdT l).L.toArray] rfl (by simp [Value.cells, PT.len]) rfl ((rdT l).L) (by simp [Value.cells]) ?_
    intro wA hgA hfA hzA
    clear hzA
    have hfrA := HFS.out.then hfA
    have hsz := HF.out.size
    have hsz2 := hfrA.size
    have hownA := HOWN.out.still hfrA
    have hrdA : Rd wA (some ⟨w4.heap.size, 0, none⟩) (1 * 12) ((rdT l).L) := by
     have := Rd.whole hgA
     rwa [PT.len] at this
    have HRDA := Lib.hid hrdA
    have HOWNA := Lib.hid hownA
    have HFRA := Lib.hid hfrA
    clear hgA hfA hrdA hownA hfrA
    generalize w4.heap.size = gA at *
    go_wp2_with (with_reducible refine wSk 28 ?_)
    refine d0c rfl rfl Tryz.underlying112 f0e rfl ap12 HOWNA.out rfl rfl HRDA.out (PT.one _) ap8 ap13 ap13 ?_
    intro vB wB hownB hfB hbB
    clear hbB
    have hfrB := HOWNA.out.fr (HF.out.then HFRA.out) (Nat.le_refl _) hfB
    have HFRB := Lib.hid hfrB
    rw [← HCS.out] at hownB
    have HOWNB := Lib.hid hownB
    clear hfrB hownB hfB
    go_wp2_with fail
    go_roundw
    case rel => exact ⟨k + 1, by omega, by go_num, by rw [HTS.out, HG.out, HK.out]; rfl, HOWNB.out, HFRB.out⟩
    case measure => simp [intOf]; omega
   ·have HK := Lib.hid hh
    clear hh
    skip
    go_wp2_with fail
    refine (d0V _).mono ?_
    rintro e' w1 ⟨gc, rfl, hle, hcv, hf1⟩
    have st1 := st0.keep hf1
    have HCV := Lib.hid hcv
    clear hcv hle
    clear st0 hf1
    go_wp2_with fail
    refine (t0u l HK.out gc a nn c _ HCV.out (HRD.out.still st1.fr) HCC.out).mono ?_
    rintro e' w2 ⟨⟨X, Y, Z, rfl⟩, hf2⟩
    have st2 := st1.keep hf2
    clear st1 hf2
    go_wp2_with (with_reducible refine wSk 9 ?_)
    refine a0a st2 rfl rfl (z := .agg (List.replicate 12 (.int .u64 0)).toArray) ap11 (cw 12 0) ap9 ?_
    intro g9 w3 st3
    clear st2
    go_wp2_with (with_reducible refine wSn ?_)
    refine a0b st3 0 rfl rfl rfl rfl rfl ap2 (by first | (rw [a0e]; kernel_rfl) | (simp only [e0D]; kernel_rfl)) (o0b _ _ _ _) ?_
    intro w4 st4
    clear st3
    have HFS := Lib.hid (HF.out.then st4.fr)
    clear st4
    go_wp2_with fail
    go_ret2
    exact ⟨rfl, HFS.out⟩
  ·exfalso
   have hkn : k = ls.length := by rw [HL.out]; omega
   rw [hkn, List.take_of_length_le (Nat.le_refl _), HGA.out] at hgood
   cases hgood
end Go.Proofs.YtmebmhjppmfbbaaGreat


set_option maxHeartbeats 16000000
set_option maxRecDepth 1000000
namespace Go.Proofs.YtmebmhjppmfbbaaGreat
open Go.RowKit Go.Mv Mvp Mvq
theorem C0S (la : List UInt8) (ls : List (List UInt8)) : ((e0N (la :: ls)).drop 0).take (rdT la).L.length = (rdT la).L := t0v (la :: ls) 0 ap14
attribute [local irreducible] a0E lw mix cw b0o b0x b0l a0L a0q beN b0F b0c b0z a0J a0N elN mdL b0e rtN rtV b0Q gXn gYn PT.L l0r k0V f0v tbL tmR tmL dbN h0H h0q i0N dig rdT b0D c0r ptL e0N d0q b0C
theorem _root_.ap0 {p : Prop} (h : p := by first | (rw [a0e]; kernel_rfl) | (rw [PT.len]; kernel_rfl) | (rw [e0D]; kernel_rfl) | (simp only [List.length_append, a0e]; kernel_rfl) | (simp only [List.length_append, a0e, PT.len, e0D]; kernel_rfl)) : p := h
theorem w0n (la : List UInt8) (w : World) (n : Nat) (gk : Nat) (hkn : Has w gk (cw 4 n) 108) (ap : Option Addr) (cp : Nat) (hre : Rd w ap ([la].length * 12) (e0N [la])) :
  Calls Tryz.prog 81 #[.slice ap 1 cp, .pointer (some ⟨gk, 0, none⟩)] w fun e w' => e = .returned (.agg (i0N [(n, rdT la)]).L.toArray) ∧ Fr Nob w w' := by
 obtain ⟨bb, oo, rfl, -⟩ := hre.at ap14
 have HRE := Lib.hid hre
 have HKN := Lib.hid hkn
 clear hre hkn
 have st0 := St.start Nob w
 go_enter Tryz.func81, Tryz.ntmps81
 go_wp2_with (with_reducible refine wSk 3 ?_)
 refine a0a st0 rfl rfl (z := .agg (List.replicate 12 (.int .u64 0)).toArray) ap11 (cw 12 0) ap9 ?_
 intro gr w1 st1
 clear st0
 go_wp2_with fail
 refine wp_region_noPanic ?_
 refine a0o (fun wx => St Nob w wx [(gr, cw 12 0, 114)]) 6 (.t 1 (.w 2 (.w 3 (.t 4 (.r 0 (.r 5 (.m 6 .nil))))))) ap11 ap11 st1.drew (fun _ _ _ _ _ h => h) ?_
 have hd1 := st1.drew
 clear st1
 refine a0s rfl rfl rfl rfl (cw 4 n) (fun wx hS => (HKN.out.keep (St.fr hS) id).range 0 _ dZl) Tryz.underlying108 rfl ap0 ?_
 try simp only [clL]
 refine a0k rfl rfl apW ?_
 try simp only [clL]
 refine a0k rfl rfl apW ?_
 try simp only [clL]
 refine a0s rfl rfl rfl rfl ((rdT la).L) (fun wx hS => (k0M (HRE.out.still (St.fr hS)) 0 _ (C0S la []))) Tryz.underlying114 rfl ap6 ?_
 try simp only [clL]
 refine a0y rfl rfl ?_
 go_simp
 refine (d0V _).mono ?_
 rintro e' w2 ⟨gc, rfl, hle, hcv, hf2⟩
 have st2 := hd1.keep hf2
 have HCV := Lib.hid hcv
 clear hcv hle
 clear hf2
 clear hd1
 refine ⟨st2, ?_⟩
 try simp only [clL]
 refine a0y rfl rfl ?_
 go_simp
 refine (z0t n (rdT la) gc _ HCV.out).mono ?_
 rintro e' w3 ⟨rfl, hf3⟩
 have st3 := st2.keep hf3
 clear hf3
 clear st2
 refine ⟨st3, ?_⟩
 try simp only [clL]
 refine a0r rfl rfl ?_
 refine a0h st3 0 rfl rfl rfl rfl ap2 ap6 (PT.one _) ?_
 intro w4 st4
 clear st3
 try simp only [Act.put]
 refine a0j ?_
 refine NoPanic.normal ?_
 have hr := st4.at 0 rfl
 have hfr := st4.fr
 clear st4
 go_wp2_with fail
 exact bodyPost_ret (a0t rfl rfl hr Tryz.underlying114 rfl ap6) rfl ⟨rfl, hfr⟩
theorem q0Y (m : Md) (hk : KindOf 1 m) (a : Option Addr) (n c : Nat) (l : List UInt8) (w : World) (hb : RdB w a n l) (h32 : l.length ≠ 32) :
  Calls Tryz.prog 79 #[.slice a n c] w fun e w' => e = .returned (.tuple #[i4 0, .bool false]) ∧ Fr Nob w w' := by
 have HK := Lib.hid hk
 have HOK := Lib.hid hk.ok
 clear hk
 have hne : ((n : Int) != 32) = true := by have := hb.len; simp; omega
 clear h32 hb
 have st0 := St.start Nob w
 go_enter Tryz.func79, Tryz.ntmps79
 go_wp2_with (with_reducible refine wSk 2 ?_)
 refine a0a st0 rfl rfl (z := zAd) ap11 (cw 4 0) ap9 ?_
 intro g2 w1 st1
 clear st0
 go_wp2_with (with_reducible refine wSk 10 ?_)
 refine c0M rfl rfl _ p0u ?_
 rw [p0v]
 go_wp2_with (with_reducible refine wSn ?_)
 refine a0b st1 0 rfl rfl rfl rfl rfl ap2 ap0 (a0g _ _) ?_
 intro w2 st2
 clear st1
 have hr := st2.at 0 rfl
 have hfr := st2.fr
 clear st2
 go_wp2_with fail
 exact bodyPost_ret (a0V rfl rfl hr Tryz.underlying108 ap0 rfl) rfl ⟨rfl, hfr⟩
theorem j0R (m : Md) (hk : KindOf 1 m) (a : Option Addr) (n c : Nat) (l : List UInt8) (w : World) (hb : RdB w a n l) (h32 : l.length = 32) (r : Bool) (hlt : decide (beN l < m.M) = r) :
  Calls Tryz.prog 79 #[.slice a n c] w fun e w' => e = .returned (.tuple #[i4 (beN l), .bool r]) ∧ Fr Nob w w' := by
 have HK := Lib.hid hk
 have HOK := Lib.hid hk.ok
 clear hk
 have hbl := g0n l ap13
 have HBL := Lib.hid hbl
 have h32' : n = 32 := by have := hb.len; omega
 subst h32'
 have HB := Lib.hid hb
 have HLT := Lib.hid hlt
 have hne : (((32 : Nat) : Int) != 32) = false := by rfl
 clear hb hbl h32 hlt
 have st0 := St.start Nob w
 go_enter Tryz.func79, Tryz.ntmps79
 go_wp2_with (with_reducible refine wSk 2 ?_)
 refine a0a st0 rfl rfl (z := zAd) ap11 (cw 4 0) ap9 ?_
 intro g2 w1 st1
 clear st0
 go_wp2_with fail
 refine (OfK HK.out _).mono ?_
 rintro e' w2 ⟨gp, rfl, hle, hm, hf2⟩
 have st2 : St Nob w w2 [(g2, cw 4 0, 108), (gp, mdL m, 185)] := st1.new hf2 hm hle
 clear st1 hf2 hm hle
 go_wp2_with fail
 refine (c0O a 32 c l _ (HB.out.still st2.fr) ap12).mono ?_
 rintro e' w3 ⟨rfl, hf3⟩
 have st3 := st2.keep hf3
 clear st2 hf3
 go_wp2_with (with_reducible refine wSk 6 ?_)
 refine a0a st3 rfl rfl (z := zAd) ap11 (cw 4 0) ap9 ?_
 intro g6 w4 st4
 clear st3
 go_wp2_with (with_reducible refine wSn ?_)
 refine a0b st4 2 rfl rfl rfl rfl rfl ap2 ap0 (a0g _ _) ?_
 intro w5 st5
 clear st4
 go_wp2_with fail
 refine wp_region_noPanic ?_
 refine a0o (fun wx => St Nob w wx [(g2, cw 4 0, 108), (gp, mdL m, 185), (g6, cw 4 (beN l), 108)]) 7 (.t 0 (.t 1 (.w 2 (.w 3 (.w 4 (.t 5 (.r 6 (.m 7 (.w 8 .nil))))))))) ap11 ap11 st5.drew (fun _ _ _ _ _ h => h) ?_
 have hd5 := st5.drew
 clear st5
 refine a0s rfl rfl rfl rfl (cw 4 (beN l)) (fun wx hS => St.rangeL hS 2 rfl 0 _ dZl) Tryz.underlying108 rfl ap0 ?_
 try simp only [clL]
 refine a0s rfl rfl rfl rfl (cw 4 (beN l)) (fun wx hS => St.rangeL hS 2 rfl 0 _ dZl) Tryz.underlying108 rfl ap0 ?_
 try simp only [clL]
 refine a0k rfl rfl apW ?_
 try simp only [clL]
 refine a0k rfl rfl apW ?_
 try simp only [clL]
 refine a0k rfl rfl apW ?_
 try simp only [clL]
 refine a0s rfl rfl rfl rfl (cw 4 m.M) (fun wx hS => St.rangeL hS 1 rfl 0 _ (n0b m)) Tryz.underlying108 rfl ap0 ?_
 try simp only [clL]
 refine a0y rfl rfl ?_
 go_simp
 refine (i0Q (beN l) m.M _ HBL.out HOK.out.lt r HLT.out).mono ?_
 rintro e' w6 ⟨rfl, hf6⟩
 have st6 := hd5.keep hf6
 clear hf6
 clear hd5
 refine ⟨st6, ?_⟩
 try simp only [clL]
 refine a0r rfl rfl ?_
 refine a0h st6 0 rfl rfl rfl rfl ap2 ap0 (a0g _ _) ?_
 intro w7 st7
 clear st6
 try simp only [Act.put]
 refine a0k rfl rfl apW ?_
 try simp only [clL]
 refine a0j ?_
 refine NoPanic.normal ?_
 have hr := st7.at 0 rfl
 have hfr := st7.fr
 clear st7
 go_wp2_with fail
 exact bodyPost_ret (a0V rfl rfl hr Tryz.underlying108 ap0 rfl) rfl ⟨rfl, hfr⟩
theorem g0F {l : List UInt8} (h : b0e mQ l = true) (a : Option Addr) (n c : Nat) (w : World) (hb : RdB w a n l) : Calls Tryz.prog 79 #[.slice a n c] w fun e w' => e = .returned (.tuple #[i4 (beN l), .bool true]) ∧ Fr Nob w w' := by
 unfold b0e at h
 simp only [Bool.and_eq_true, decide_eq_true_eq] at h
 exact j0R mQ .one a n c l w hb h.1 true (decide_eq_true h.2)
theorem p0z {l : List UInt8} (h : b0e mQ l = false) (a : Option Addr) (n c : Nat) (w : World) (hb : RdB w a n l) : Calls Tryz.prog 79 #[.slice a n c] w fun e w' => (∃ N, e = .returned (.tuple #[i4 N, .bool false])) ∧ Fr Nob w w' := by
 unfold b0e at h
 by_cases h32 : l.length = 32
 ·rw [decide_eq_true h32, Bool.true_and] at h
  exact (j0R mQ .one a n c l w hb h32 false h).mono fun _ _ t => ⟨⟨_, t.1⟩, t.2⟩
 ·exact (q0Y mQ .one a n c l w hb h32).mono fun _ _ t => ⟨⟨_, t.1⟩, t.2⟩
end Go.Proofs.YtmebmhjppmfbbaaGreat
