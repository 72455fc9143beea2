/- ; ; ; ; ; ; ; ; ; ; ; . -/
import Derived.Test.YtemcankmggmgoaaGreatMgBlindTrueProof5
import Derived.Test.YtemcankmggmgoaaGreatMgBlindTrueProof3
import Derived.Test.YtemcankmggmgoaaGreatMgBlindTrueProof4
import Derived.Test.YtemcankmggmgoaaGreatMgBlindTrueProof1
set_option maxHeartbeats 16000000
set_option maxRecDepth 1000000

namespace Go.Proofs.YtemcankmggmgoaaGreat
section
open Go.RowKit Go.Mv Mvp
attribute [local irreducible] a0C lw mix cw b0k b0y b0j a0M a0n beN b0F a0P b0C a0J a0R elN mdL a0S
theorem i0Z (m : Md) (gc gp bx by_ : Nat) (w : World) (hok : m.Ok) (hcv : Has w gc (e0b m gp bx by_) 125) (hpm : Has w gp (mdL m) 187) :
  Calls Tryz.prog 157 #[.pointer (some ⟨gc, 0, none⟩)] w fun e w' => e = .returned (ptV m 1 1 0) ∧ Fr Nob w w' := by
 have HOK := qH hok
 have HCV := qH hcv
 have HPM := qH hpm
 clear hok hcv hpm
 have st0 := St.start Nob w
 go_enter Tryz.func157, Tryz.ntmps157
 go_wp2_with (with_reducible refine wSk 2 ?_)
 refine a0a st0 rfl rfl (z := zAc) ap14 (cw 12 0) ap12 ?_
 intro g2 w1 st1
 clear st0
 go_wp2_with fail
 refine wp_region_noPanic ?_
 refine a0e st1 11 [.w 0, .w 1, .w 2, .t 3, .w 5, .w 6, .w 7, .t 8, .c 4, .c 9, .w 10] (.m 11 .nil) ap14 ap14 (fun _ _ _ _ _ h => h) ?_
 clear st1
 iterate 3 (refine a0m rfl rfl apX ?_; try simp only [clL])
 refine b0m (v := ?_) rfl rfl (fun xq wx hS => ?_) ?_
 rotate_left 1
 ·(have hc := (HCV.out.keep (St.fr hS) id).cell (i := 0) rfl; clear hS; go_simp; with_reducible rfl)
 try simp only [clL]
 iterate 3 (refine a0m rfl rfl apX ?_; try simp only [clL])
 refine b0m (v := ?_) rfl rfl (fun xq wx hS => ?_) ?_
 rotate_left 1
 ·(have hc := (HCV.out.keep (St.fr hS) id).cell (i := 0) rfl; clear hS; go_simp; with_reducible rfl)
 try simp only [clL]
 refine a0c rfl rfl rfl Tryz.call148 (fun w hS hR => e0K m gp _ HOK.out (HPM.out.keep hS.fr id)) (fun _ => rfl) ?_
 try simp only [clL]
 refine a0c rfl rfl rfl Tryz.call148 (fun w hS hR => e0K m gp _ HOK.out (HPM.out.keep hS.fr id)) (fun _ => rfl) ?_
 try simp only [clL]
 refine a0m rfl rfl (fun _ => b0A rfl _ (t0D _ _)) ?_
 try simp only [clL]
 refine a0t fun xq w2 st2 hR => ?_
 try dsimp only
 clear hR xq
 refine a0q rfl rfl ?_
 refine a0h st2 0 rfl rfl rfl rfl ap13 ap14 (b0i _ _ _) ?_
 intro w3 st3
 try simp only [List.nil_append, List.set_cons_zero] at st3
 clear st2
 try simp only [Act.put]
 refine a0g ?_
 refine NoPanic.normal ?_
 have hr := st3.at 0 rfl
 have hfr := st3.fr
 clear st3
 go_wp2_with fail
 exact bodyPost_ret (a0r rfl rfl hr Tryz.underlying117 rfl ap14) rfl ⟨by unfold ptV ptL; rw [e0a], hfr⟩
theorem n0k (m : Md) (gc gp bx by_ : Nat) (w : World) (hok : m.Ok) (hcv : Has w gc (e0b m gp bx by_) 125) (hpm : Has w gp (mdL m) 187) :
  Calls Tryz.prog 157 #[.pointer (some ⟨gc, 0, none⟩)] w fun e w' => e = .returned (.agg (cw 4 (elN m 1) ++ (cw 4 (elN m 1) ++ cw 4 (elN m 0))).toArray) ∧ Fr Nob w w' := i0Z m gc gp bx by_ w hok hcv hpm
theorem r0F (m : Md) (gc gp bx by_ : Nat) (w : World) (hok : m.Ok) (hcv : Has w gc (e0b m gp bx by_) 125) (hpm : Has w gp (mdL m) 187) (x1 y1 z1 x2 y2 z2 : Nat) (hb1 : (z1 % m.M == 0) = true) :
  Calls Tryz.prog 159 #[.pointer (some ⟨gc, 0, none⟩), ptV m x1 y1 z1, ptV m x2 y2 z2] w fun e w' => e = .returned (ptV m x2 y2 z2) ∧ Fr Nob w w' := by
 have HOK := qH hok
 have HCV := qH hcv
 have HPM := qH hpm
 clear hok hcv hpm
 have HB1 := qH hb1
 clear hb1
 unfold ptV ptL
 have st0 := St.start Nob w
 go_enter Tryz.func159, Tryz.ntmps159
 go_wp2_with (with_reducible refine wSk 4 ?_)
 refine a0l st0 rfl rfl rfl (cw 4 (elN m x1) ++ (cw 4 (elN m y1) ++ cw 4 (elN m z1))) rfl ?_
 intro g4 w1 st1
 clear st0
 go_wp2_with (with_reducible refine wSk 5 ?_)
 refine a0l st1 rfl rfl rfl (cw 4 (elN m x2) ++ (cw 4 (elN m y2) ++ cw 4 (elN m z2))) rfl ?_
 intro g5 w2 st2
 clear st1
 go_wp2_with (with_reducible refine wSk 6 ?_)
 refine a0a st2 rfl rfl (z := zAc) ap14 (cw 12 0) ap12 ?_
 intro g6 w3 st3
 clear st2
 go_wp2_with (with_reducible refine wSk 20 ?_)
 refine a0p st3 0 rfl rfl rfl Tryz.underlying117 rfl rfl ap14 ?_
 go_wp2_with fail
 refine (d0v m HOK.out x1 y1 z1 true HB1.out _).mono ?_
 rintro e' w4 ⟨rfl, hf4⟩
 have st4 := st3.keep hf4
 clear st3 hf4
 go_wp2_with (with_reducible refine wSk 22 ?_)
 refine a0p st4 1 rfl rfl rfl Tryz.underlying117 rfl rfl ap14 ?_
 go_wp2_with (with_reducible refine wSn ?_)
 refine a0b st4 2 rfl rfl rfl rfl rfl ap13 ap14 (b0i _ _ _) ?_
 intro w5 st5
 clear st4
 have hr := st5.at 2 rfl
 have hfr := st5.fr
 clear st5
 go_wp2_with fail
 exact bodyPost_ret (a0r rfl rfl hr Tryz.underlying117 rfl ap14) rfl ⟨rfl, hfr⟩
theorem r0G (m : Md) (gc gp bx by_ : Nat) (w : World) (hok : m.Ok) (hcv : Has w gc (e0b m gp bx by_) 125) (hpm : Has w gp (mdL m) 187) (x1 y1 z1 x2 y2 z2 : Nat) (hb1 : (z1 % m.M == 0) = false) (hb2 : (z2 % m.M == 0) = true) :
  Calls Tryz.prog 159 #[.pointer (some ⟨gc, 0, none⟩), ptV m x1 y1 z1, ptV m x2 y2 z2] w fun e w' => e = .returned (ptV m x1 y1 z1) ∧ Fr Nob w w' := by
 have HOK := qH hok
 have HCV := qH hcv
 have HPM := qH hpm
 clear hok hcv hpm
 have HB1 := qH hb1
 have HB2 := qH hb2
 clear hb1 hb2
 unfold ptV ptL
 have st0 := St.start Nob w
 go_enter Tryz.func159, Tryz.ntmps159
 go_wp2_with (with_reducible refine wSk 4 ?_)
 refine a0l st0 rfl rfl rfl (cw 4 (elN m x1) ++ (cw 4 (elN m y1) ++ cw 4 (elN m z1))) rfl ?_
 intro g4 w1 st1
 clear st0
 go_wp2_with (with_reducible refine wSk 5 ?_)
 refine a0l st1 rfl rfl rfl (cw 4 (elN m x2) ++ (cw 4 (elN m y2) ++ cw 4 (elN m z2))) rfl ?_
 intro g5 w2 st2
 clear st1
 go_wp2_with (with_reducible refine wSk 6 ?_)
 refine a0a st2 rfl rfl (z := zAc) ap14 (cw 12 0) ap12 ?_
 intro g6 w3 st3
 clear st2
 go_wp2_with (with_reducible refine wSk 20 ?_)
 refine a0p st3 0 rfl rfl rfl Tryz.underlying117 rfl rfl ap14 ?_
 go_wp2_with fail
 refine (d0v m HOK.out x1 y1 z1 false HB1.out _).mono ?_
 rintro e' w4 ⟨rfl, hf4⟩
 have st4 := st3.keep hf4
 clear st3 hf4
 go_wp2_with (with_reducible refine wSk 24 ?_)
 refine a0p st4 1 rfl rfl rfl Tryz.underlying117 rfl rfl ap14 ?_
 go_wp2_with fail
 refine (d0v m HOK.out x2 y2 z2 true HB2.out _).mono ?_
 rintro e' w5 ⟨rfl, hf5⟩
 have st5 := st4.keep hf5
 clear st4 hf5
 go_wp2_with (with_reducible refine wSk 26 ?_)
 refine a0p st5 0 rfl rfl rfl Tryz.underlying117 rfl rfl ap14 ?_
 go_wp2_with (with_reducible refine wSn ?_)
 refine a0b st5 2 rfl rfl rfl rfl rfl ap13 ap14 (b0i _ _ _) ?_
 intro w6 st6
 clear st5
 have hr := st6.at 2 rfl
 have hfr := st6.fr
 clear st6
 go_wp2_with fail
 exact bodyPost_ret (a0r rfl rfl hr Tryz.underlying117 rfl ap14) rfl ⟨rfl, hfr⟩
end
section
open Go.RowKit Go.Mv Mvp
attribute [local irreducible] a0C lw mix cw b0k b0y b0j a0M a0n beN b0F a0P b0C a0J a0R elN mdL a0S
def E0a (b c : Bool) (u v x : Value) : Value := match b, c with
 | false, _ => x
 | true, false => v
 | true, true => u
theorem t0Q (m : Md) (gc gp bx by_ : Nat) (w : World) (hok : m.Ok) (hcv : Has w gc (e0b m gp bx by_) 125) (hpm : Has w gp (mdL m) 187) (x1 y1 z1 x2 y2 z2 : Nat) (hb1 : (z1 % m.M == 0) = false) (hb2 : (z2 % m.M == 0) = false) (pp qq u1 u2 q3 s1 p3 s2 hd rr hh h3 v r2 v2 t1 X t2 t3 t4 Y zz Z DX DY DZ : Nat) (epp : z1 * z1 = pp) (eqq : z2 * z2 = qq) (eu1 : x1 * qq = u1) (eu2 : x2 * pp = u2) (eq3 : qq * z2 = q3) (es1 : y1 * q3 = s1) (ep3 : pp * z1 = p3) (es2 : y2 * p3 = s2) (ehd : u2 + (m.M - u1 % m.M) = hd) (err : s2 + (m.M - s1 % m.M) = rr) (ehh : hd * hd = hh) (eh3 : hh * hd = h3) (ev : u1 * hh = v) (er2 : rr * rr = r2) (ev2 : v + v = v2) (et1 : h3 + v2 = t1) (eX : r2 + (m.M - t1 % m.M) = X) (et2 : v + (m.M - X % m.M) = t2) (et3 : rr * t2 = t3) (et4 : s1 * h3 = t4) (eY : t3 + (m.M - t4 % m.M) = Y) (ezz : z1 * z2 = zz) (eZ : hd * zz = Z) (hd0 : ((hd % m.M == 0) = true → (rr % m.M == 0) = true → ∀ wx, Fr Nob w wx → Calls Tryz.prog 158 #[.pointer (some ⟨gc, 0, none⟩), ptV m x1 y1 z1] wx fun e w' => e = .returned (ptV m DX DY DZ) ∧ Fr Nob wx w')) :
  Calls Tryz.prog 159 #[.pointer (some ⟨gc, 0, none⟩), ptV m x1 y1 z1, ptV m x2 y2 z2] w fun e w' => e = .returned (E0a (hd % m.M == 0) (rr % m.M == 0) (ptV m DX DY DZ) (ptV m 1 1 0) (ptV m X Y Z)) ∧ Fr Nob w w' := by
 have HOK := qH hok
 have HCV := qH hcv
 have HPM := qH hpm
 clear hok hcv hpm
 have HB1 := qH hb1
 have HB2 := qH hb2
 have Hpp := qH epp
 have Hqq := qH eqq
 have Hu1 := qH eu1
 have Hu2 := qH eu2
 have Hq3 := qH eq3
 have Hs1 := qH es1
 have Hp3 := qH ep3
 have Hs2 := qH es2
 have Hhd := qH ehd
 have Hrr := qH err
 have Hhh := qH ehh
 have Hh3 := qH eh3
 have Hv := qH ev
 have Hr2 := qH er2
 have Hv2 := qH ev2
 have Ht1 := qH et1
 have HX := qH eX
 have Ht2 := qH et2
 have Ht3 := qH et3
 have Ht4 := qH et4
 have HY := qH eY
 have Hzz := qH ezz
 have HZ := qH eZ
 have HD0 := qH hd0
 clear hd0 hb1 hb2 epp eqq eu1 eu2 eq3 es1 ep3 es2 ehd err ehh eh3 ev er2 ev2 et1 eX et2 et3 et4 eY ezz eZ
 unfold ptV ptL
 have st0 := St.start Nob w
 go_enter Tryz.func159, Tryz.ntmps159
 go_wp2_with (with_reducible refine wSk 4 ?_)
 refine a0l st0 rfl rfl rfl (cw 4 (elN m x1) ++ (cw 4 (elN m y1) ++ cw 4 (elN m z1))) rfl ?_
 intro g4 w1 st1
 clear st0
 go_wp2_with (with_reducible refine wSk 5 ?_)
 refine a0l st1 rfl rfl rfl (cw 4 (elN m x2) ++ (cw 4 (elN m y2) ++ cw 4 (elN m z2))) rfl ?_
 intro g5 w2 st2
 clear st1
 go_wp2_with (with_reducible refine wSk 6 ?_)
 refine a0a st2 rfl rfl (z := zAc) (by kernel_rfl) (cw 12 0) (by rw [g0Y]; rfl) ?_
 intro g6 w3 st3
 clear st2
 go_wp2_with (with_reducible refine wSk 20 ?_)
 refine a0p st3 0 rfl rfl rfl Tryz.underlying117 rfl rfl (by kernel_rfl) ?_
 go_wp2_with fail
 refine (d0v m HOK.out x1 y1 z1 false HB1.out _).mono ?_
 rintro e' w4 ⟨rfl, hf4⟩
 have st4 := st3.keep hf4
 clear st3 hf4
 go_wp2_with (with_reducible refine wSk 24 ?_)
 refine a0p st4 1 rfl rfl rfl Tryz.underlying117 rfl rfl (by kernel_rfl) ?_
 go_wp2_with fail
 refine (d0v m HOK.out x2 y2 z2 false HB2.out _).mono ?_
 rintro e' w5 ⟨rfl, hf5⟩
 have st5 := st4.keep hf5
 clear st4 hf5
 go_wp2_with fail
 refine wp_region_noPanic ?_
 refine a0e st5 17 [.o 14, .o 15, .w 0, .w 1, .w 2, .t 3, .w 4, .t 5, .w 7, .w 8, .w 9, .t 10, .w 11, .t 12, .c 6, .c 13, .j 14, .j 15] (.r 16 (.m 17 .nil)) (by kernel_rfl) (by kernel_rfl) (fun _ _ _ _ _ h => h) ?_
 clear st5
 refine b0p rfl rfl rfl j0z (cw 4 0) rfl ?_
 try simp only [clL]
 refine b0p rfl rfl rfl j0z (cw 4 0) rfl ?_
 try simp only [clL]
 refine a0m (v := ?_) rfl rfl (fun xq wx => ?_) ?_
 rotate_left 1
 ·(go_simp; with_reducible rfl)
 try simp only [clL]
 refine a0m (v := ?_) rfl rfl (fun xq wx => ?_) ?_
 rotate_left 1
 ·(go_simp; with_reducible rfl)
 try simp only [clL]
 refine a0m (v := ?_) rfl rfl (fun xq wx => ?_) ?_
 rotate_left 1
 ·(go_simp; with_reducible rfl)
 try simp only [clL]
 refine b0m (v := ?_) rfl rfl (fun xq wx hS => ?_) ?_
 rotate_left 1
 ·(have hc := (HCV.out.keep (St.fr hS) id).cell (i := 0) rfl; clear hS; go_simp; with_reducible rfl)
 try simp only [clL]
 refine a0m (v := ?_) rfl rfl (fun xq wx => ?_) ?_
 rotate_left 1
 ·(go_simp; with_reducible rfl)
 try simp only [clL]
 refine a0d rfl rfl rfl (fun _ => rfl) (cw 4 (elN m z1)) (fun wx hS => St.rangeL hS 0 rfl 8 _ (g0y _ _ _)) Tryz.underlying66 rfl (by kernel_rfl) ?_
 try simp only [clL]
 refine a0m (v := ?_) rfl rfl (fun xq wx => ?_) ?_
 rotate_left 1
 ·(go_simp; with_reducible rfl)
 try simp only [clL]
 refine a0m (v := ?_) rfl rfl (fun xq wx => ?_) ?_
 rotate_left 1
 ·(go_simp; with_reducible rfl)
 try simp only [clL]
 refine a0m (v := ?_) rfl rfl (fun xq wx => ?_) ?_
 rotate_left 1
 ·(go_simp; with_reducible rfl)
 try simp only [clL]
 refine b0m (v := ?_) rfl rfl (fun xq wx hS => ?_) ?_
 rotate_left 1
 ·(have hc := (HCV.out.keep (St.fr hS) id).cell (i := 0) rfl; clear hS; go_simp; with_reducible rfl)
 try simp only [clL]
 refine a0m (v := ?_) rfl rfl (fun xq wx => ?_) ?_
 rotate_left 1
 ·(go_simp; with_reducible rfl)
 try simp only [clL]
 refine a0d rfl rfl rfl (fun _ => rfl) (cw 4 (elN m z2)) (fun wx hS => St.rangeL hS 1 rfl 8 _ (g0y _ _ _)) Tryz.underlying66 rfl (by kernel_rfl) ?_
 try simp only [clL]
 refine a0c rfl rfl rfl Tryz.call151 (fun w hS hR => b0X m gp _ HOK.out (HPM.out.keep hS.fr id) z1 pp Hpp.out) (fun _ => rfl) ?_
 try simp only [clL]
 refine a0c rfl rfl rfl Tryz.call151 (fun w hS hR => b0X m gp _ HOK.out (HPM.out.keep hS.fr id) z2 qq Hqq.out) (fun _ => rfl) ?_
 try simp only [clL]
 refine b0f (List.mem_cons_of_mem _ List.mem_cons_self) fun g7 => ?_
 simp only [upd, reduceIte]
 try simp only [Nat.reduceEqDiff, reduceIte]
 refine b0f List.mem_cons_self fun g8 => ?_
 simp only [upd, reduceIte]
 refine a0t fun xq w6 st6 hR => ?_
 try dsimp only
 clear hR xq
 refine a0w rfl rfl ?_
 refine a0h st6 3 rfl rfl rfl rfl (by simp [a0i]) (by kernel_rfl) (a0f _ _) ?_
 intro w7 st7
 repeat (first | simp only [List.cons_append] at st7 | simp only [List.nil_append] at st7 | simp only [List.set_cons_succ] at st7 | simp only [List.set_cons_zero] at st7)
 clear st6
 refine ⟨by first | exact st7 | exact St.less st7 (by simp), ?_⟩
 try simp only [Act.put]
 refine a0q rfl rfl ?_
 refine a0h st7 4 rfl rfl rfl rfl (by simp [a0i]) (by kernel_rfl) (a0f _ _) ?_
 intro w8 st8
 try simp only [List.set_cons_zero, List.set_cons_succ] at st8
 clear st7
 try simp only [Act.put]
 refine a0g ?_
 refine NoPanic.normal ?_
 go_wp2_with fail
 refine wp_region_noPanic ?_
 refine a0e st8 19 [.o 16, .o 17, .w 0, .w 1, .w 2, .t 3, .w 4, .t 5, .t 6, .w 8, .w 9, .w 10, .t 11, .w 12, .t 13, .t 14, .c 7, .c 15, .j 16, .j 17] (.r 18 (.m 19 .nil)) (by kernel_rfl) (by kernel_rfl) (fun _ _ _ _ _ h => h) ?_
 clear st8
 refine b0p rfl rfl rfl j0z (cw 4 0) rfl ?_
 try simp only [clL]
 refine b0p rfl rfl rfl j0z (cw 4 0) rfl ?_
 try simp only [clL]
 refine a0m (v := ?_) rfl rfl (fun xq wx => ?_) ?_
 rotate_left 1
 ·(go_simp; with_reducible rfl)
 try simp only [clL]
 refine a0m (v := ?_) rfl rfl (fun xq wx => ?_) ?_
 rotate_left 1
 ·(go_simp; with_reducible rfl)
 try simp only [clL]
 refine a0m (v := ?_) rfl rfl (fun xq wx => ?_) ?_
 rotate_left 1
 ·(go_simp; with_reducible rfl)
 try simp only [clL]
 refine b0m (v := ?_) rfl rfl (fun xq wx hS => ?_) ?_
 rotate_left 1
 ·(have hc := (HCV.out.keep (St.fr hS) id).cell (i := 0) rfl; clear hS; go_simp; with_reducible rfl)
 try simp only [clL]
 refine a0m (v := ?_) rfl rfl (fun xq wx => ?_) ?_
 rotate_left 1
 ·(go_simp; with_reducible rfl)
 try simp only [clL]
 refine a0d rfl rfl rfl (fun _ => rfl) (cw 4 (elN m x1)) (fun wx hS => St.rangeL hS 0 rfl 0 _ (l0U _ _ _)) Tryz.underlying66 rfl (by kernel_rfl) ?_
 try simp only [clL]
 refine a0d rfl rfl rfl (fun _ => rfl) (cw 4 (elN m qq)) (fun wx hS => St.rangeL hS 4 rfl 0 _ dZl) Tryz.underlying66 rfl (by kernel_rfl) ?_
 try simp only [clL]
 refine a0m (v := ?_) rfl rfl (fun xq wx => ?_) ?_
 rotate_left 1
 ·(go_simp; with_reducible rfl)
 try simp only [clL]
 refine a0m (v := ?_) rfl rfl (fun xq wx => ?_) ?_
 rotate_left 1
 ·(go_simp; with_reducible rfl)
 try simp only [clL]
 refine a0m (v := ?_) rfl rfl (fun xq wx => ?_) ?_
 rotate_left 1
 ·(go_simp; with_reducible rfl)
 try simp only [clL]
 refine b0m (v := ?_) rfl rfl (fun xq wx hS => ?_) ?_
 rotate_left 1
 ·(have hc := (HCV.out.keep (St.fr hS) id).cell (i := 0) rfl; clear hS; go_simp; with_reducible rfl)
 try simp only [clL]
 refine a0m (v := ?_) rfl rfl (fun xq wx => ?_) ?_
 rotate_left 1
 ·(go_simp; with_reducible rfl)
 try simp only [clL]
 refine a0d rfl rfl rfl (fun _ => rfl) (cw 4 (elN m x2)) (fun wx hS => St.rangeL hS 1 rfl 0 _ (l0U _ _ _)) Tryz.underlying66 rfl (by kernel_rfl) ?_
 try simp only [clL]
 refine a0d rfl rfl rfl (fun _ => rfl) (cw 4 (elN m pp)) (fun wx hS => St.rangeL hS 3 rfl 0 _ dZl) Tryz.underlying66 rfl (by kernel_rfl) ?_
 try simp only [clL]
 refine a0c rfl rfl rfl Tryz.call152 (fun w hS hR => c0o m gp _ HOK.out (HPM.out.keep hS.fr id) x1 qq u1 Hu1.out) (fun _ => rfl) ?_
 try simp only [clL]
 refine a0c rfl rfl rfl Tryz.call152 (fun w hS hR => c0o m gp _ HOK.out (HPM.out.keep hS.fr id) x2 pp u2 Hu2.out) (fun _ => rfl) ?_
 try simp only [clL]
 refine b0f (List.mem_cons_of_mem _ List.mem_cons_self) fun g9 => ?_
 simp only [upd, reduceIte]
 try simp only [Nat.reduceEqDiff, reduceIte]
 refine b0f List.mem_cons_self fun g10 => ?_
 simp only [upd, reduceIte]
 refine a0t fun xq w9 st9 hR => ?_
 try dsimp only
 clear hR xq
 refine a0w rfl rfl ?_
 refine a0h st9 5 rfl rfl rfl rfl (by simp [a0i]) (by kernel_rfl) (a0f _ _) ?_
 intro w10 st10
 repeat (first | simp only [List.cons_append] at st10 | simp only [List.nil_append] at st10 | simp only [List.set_cons_succ] at st10 | simp only [List.set_cons_zero] at st10)
 clear st9
 refine ⟨by first | exact st10 | exact St.less st10 (by simp), ?_⟩
 try simp only [Act.put]
 refine a0q rfl rfl ?_
 refine a0h st10 6 rfl rfl rfl rfl (by simp [a0i]) (by kernel_rfl) (a0f _ _) ?_
 intro w11 st11
 try simp only [List.set_cons_zero, List.set_cons_succ] at st11
 clear st10
 try simp only [Act.put]
 refine a0g ?_
 refine NoPanic.normal ?_
 go_wp2_with fail
 refine wp_region_noPanic ?_
 refine a0e st11 33 [.o 30, .o 31, .w 0, .w 1, .w 2, .t 3, .w 4, .t 5, .w 6, .w 7, .w 8, .t 9, .t 10, .w 11, .t 12, .w 15, .w 16, .w 17, .t 18, .w 19, .t 20, .w 21, .w 22, .w 23, .t 24, .t 25, .w 26, .t 27, .c 13, .c 14, .c 28, .c 29, .j 30, .j 31] (.r 32 (.m 33 .nil)) (by kernel_rfl) (by kernel_rfl) (fun _ _ _ _ _ h => h) ?_
 clear st11
 refine b0p rfl rfl rfl j0z (cw 4 0) rfl ?_
 try simp only [clL]
 refine b0p rfl rfl rfl j0z (cw 4 0) rfl ?_
 try simp only [clL]
 refine a0m (v := ?_) rfl rfl (fun xq wx => ?_) ?_
 rotate_left 1
 ·(go_simp; with_reducible rfl)
 try simp only [clL]
 refine a0m (v := ?_) rfl rfl (fun xq wx => ?_) ?_
 rotate_left 1
 ·(go_simp; with_reducible rfl)
 try simp only [clL]
 refine a0m (v := ?_) rfl rfl (fun xq wx => ?_) ?_
 rotate_left 1
 ·(go_simp; with_reducible rfl)
 try simp only [clL]
 refine b0m (v := ?_) rfl rfl (fun xq wx hS => ?_) ?_
 rotate_left 1
 ·(have hc := (HCV.out.keep (St.fr hS) id).cell (i := 0) rfl; clear hS; go_simp; with_reducible rfl)
 try simp only [clL]
 refine a0m (v := ?_) rfl rfl (fun xq wx => ?_) ?_
 rotate_left 1
 ·(go_simp; with_reducible rfl)
 try simp only [clL]
 refine a0d rfl rfl rfl (fun _ => rfl) (cw 4 (elN m y1)) (fun wx hS => St.rangeL hS 0 rfl 4 _ (n0M _ _ _)) Tryz.underlying66 rfl (by kernel_rfl) ?_
 try simp only [clL]
 refine a0m (v := ?_) rfl rfl (fun xq wx => ?_) ?_
 rotate_left 1
 ·(go_simp; with_reducible rfl)
 try simp only [clL]
 refine a0m (v := ?_) rfl rfl (fun xq wx => ?_) ?_
 rotate_left 1
 ·(go_simp; with_reducible rfl)
 try simp only [clL]
 refine a0m (v := ?_) rfl rfl (fun xq wx => ?_) ?_
 rotate_left 1
 ·(go_simp; with_reducible rfl)
 try simp only [clL]
 refine b0m (v := ?_) rfl rfl (fun xq wx hS => ?_) ?_
 rotate_left 1
 ·(have hc := (HCV.out.keep (St.fr hS) id).cell (i := 0) rfl; clear hS; go_simp; with_reducible rfl)
 try simp only [clL]
 refine a0d rfl rfl rfl (fun _ => rfl) (cw 4 (elN m qq)) (fun wx hS => St.rangeL hS 4 rfl 0 _ dZl) Tryz.underlying66 rfl (by kernel_rfl) ?_
 try simp only [clL]
 refine a0m (v := ?_) rfl rfl (fun xq wx => ?_) ?_
 rotate_left 1
 ·(go_simp; with_reducible rfl)
 try simp only [clL]
 refine a0d rfl rfl rfl (fun _ => rfl) (cw 4 (elN m z2)) (fun wx hS => St.rangeL hS 1 rfl 8 _ (g0y _ _ _)) Tryz.underlying66 rfl (by kernel_rfl) ?_
 try simp only [clL]
 refine a0m (v := ?_) rfl rfl (fun xq wx => ?_) ?_
 rotate_left 1
 ·(go_simp; with_reducible rfl)
 try simp only [clL]
 refine a0m (v := ?_) rfl rfl (fun xq wx => ?_) ?_
 rotate_left 1
 ·(go_simp; with_reducible rfl)
 try simp only [clL]
 refine a0m (v := ?_) rfl rfl (fun xq wx => ?_) ?_
 rotate_left 1
 ·(go_simp; with_reducible rfl)
 try simp only [clL]
 refine b0m (v := ?_) rfl rfl (fun xq wx hS => ?_) ?_
 rotate_left 1
 ·(have hc := (HCV.out.keep (St.fr hS) id).cell (i := 0) rfl; clear hS; go_simp; with_reducible rfl)
 try simp only [clL]
 refine a0m (v := ?_) rfl rfl (fun xq wx => ?_) ?_
 rotate_left 1
 ·(go_simp; with_reducible rfl)
 try simp only [clL]
 refine a0d rfl rfl rfl (fun _ => rfl) (cw 4 (elN m y2)) (fun wx hS => St.rangeL hS 1 rfl 4 _ (n0M _ _ _)) Tryz.underlying66 rfl (by kernel_rfl) ?_
 try simp only [clL]
 refine a0m (v := ?_) rfl rfl (fun xq wx => ?_) ?_
 rotate_left 1
 ·(go_simp; with_reducible rfl)
 try simp only [clL]
 refine a0m (v := ?_) rfl rfl (fun xq wx => ?_) ?_
 rotate_left 1
 ·(go_simp; with_reducible rfl)
 try simp only [clL]
 refine a0m (v := ?_) rfl rfl (fun xq wx => ?_) ?_
 rotate_left 1
 ·(go_simp; with_reducible rfl)
 try simp only [clL]
 refine b0m (v := ?_) rfl rfl (fun xq wx hS => ?_) ?_
 rotate_left 1
 ·(have hc := (HCV.out.keep (St.fr hS) id).cell (i := 0) rfl; clear hS; go_simp; with_reducible rfl)
 try simp only [clL]
 refine a0d rfl rfl rfl (fun _ => rfl) (cw 4 (elN m pp)) (fun wx hS => St.rangeL hS 3 rfl 0 _ dZl) Tryz.underlying66 rfl (by kernel_rfl) ?_
 try simp only [clL]
 refine a0m (v := ?_) rfl rfl (fun xq wx => ?_) ?_
 rotate_left 1
 ·(go_simp; with_reducible rfl)
 try simp only [clL]
 refine a0d rfl rfl rfl (fun _ => rfl) (cw 4 (elN m z1)) (fun wx hS => St.rangeL hS 0 rfl 8 _ (g0y _ _ _)) Tryz.underlying66 rfl (by kernel_rfl) ?_
 try simp only [clL]
 refine a0c rfl rfl rfl Tryz.call152 (fun w hS hR => c0o m gp _ HOK.out (HPM.out.keep hS.fr id) qq z2 q3 Hq3.out) (fun _ => rfl) ?_
 try simp only [clL]
 refine a0c rfl rfl rfl Tryz.call152 (fun w hS hR => c0o m gp _ HOK.out (HPM.out.keep hS.fr id) y1 q3 s1 Hs1.out) (fun _ => rfl) ?_
 try simp only [clL]
 refine a0c rfl rfl rfl Tryz.call152 (fun w hS hR => c0o m gp _ HOK.out (HPM.out.keep hS.fr id) pp z1 p3 Hp3.out) (fun _ => rfl) ?_
 try simp only [clL]
 refine a0c rfl rfl rfl Tryz.call152 (fun w hS hR => c0o m gp _ HOK.out (HPM.out.keep hS.fr id) y2 p3 s2 Hs2.out) (fun _ => rfl) ?_
 try simp only [clL]
 refine b0f (List.mem_cons_of_mem _ List.mem_cons_self) fun g11 => ?_
 simp only [upd, reduceIte]
 try simp only [Nat.reduceEqDiff, reduceIte]
 refine b0f List.mem_cons_self fun g12 => ?_
 simp only [upd, reduceIte]
 refine a0t fun xq w12 st12 hR => ?_
 try dsimp only
 clear hR xq
 refine a0w rfl rfl ?_
 refine a0h st12 7 rfl rfl rfl rfl (by simp [a0i]) (by kernel_rfl) (a0f _ _) ?_
 intro w13 st13
 repeat (first | simp only [List.cons_append] at st13 | simp only [List.nil_append] at st13 | simp only [List.set_cons_succ] at st13 | simp only [List.set_cons_zero] at st13)
 clear st12
 refine ⟨by first | exact st13 | exact St.less st13 (by simp), ?_⟩
 try simp only [Act.put]
 refine a0q rfl rfl ?_
 refine a0h st13 8 rfl rfl rfl rfl (by simp [a0i]) (by kernel_rfl) (a0f _ _) ?_
 intro w14 st14
 try simp only [List.set_cons_zero, List.set_cons_succ] at st14
 clear st13
 try simp only [Act.put]
 refine a0g ?_
 refine NoPanic.normal ?_
 go_wp2_with fail
 refine wp_region_noPanic ?_
 refine a0e st14 17 [.o 14, .o 15, .w 0, .w 1, .w 2, .t 3, .t 4, .t 5, .w 7, .w 8, .w 9, .t 10, .t 11, .t 12, .c 6, .c 13, .j 14, .j 15] (.r 16 (.m 17 .nil)) (by kernel_rfl) (by kernel_rfl) (fun _ _ _ _ _ h => h) ?_
 clear st14
 refine b0p rfl rfl rfl j0z (cw 4 0) rfl ?_
 try simp only [clL]
 refine b0p rfl rfl rfl j0z (cw 4 0) rfl ?_
 try simp only [clL]
 refine a0m (v := ?_) rfl rfl (fun xq wx => ?_) ?_
 rotate_left 1
 ·(go_simp; with_reducible rfl)
 try simp only [clL]
 refine a0m (v := ?_) rfl rfl (fun xq wx => ?_) ?_
 rotate_left 1
 ·(go_simp; with_reducible rfl)
 try simp only [clL]
 refine a0m (v := ?_) rfl rfl (fun xq wx => ?_) ?_
 rotate_left 1
 ·(go_simp; with_reducible rfl)
 try simp only [clL]
 refine b0m (v := ?_) rfl rfl (fun xq wx hS => ?_) ?_
 rotate_left 1
 ·(have hc := (HCV.out.keep (St.fr hS) id).cell (i := 0) rfl; clear hS; go_simp; with_reducible rfl)
 try simp only [clL]
 refine a0d rfl rfl rfl (fun _ => rfl) (cw 4 (elN m u2)) (fun wx hS => St.rangeL hS 6 rfl 0 _ dZl) Tryz.underlying66 rfl (by kernel_rfl) ?_
 try simp only [clL]
 refine a0d rfl rfl rfl (fun _ => rfl) (cw 4 (elN m u1)) (fun wx hS => St.rangeL hS 5 rfl 0 _ dZl) Tryz.underlying66 rfl (by kernel_rfl) ?_
 try simp only [clL]
 refine a0m (v := ?_) rfl rfl (fun xq wx => ?_) ?_
 rotate_left 1
 ·(go_simp; with_reducible rfl)
 try simp only [clL]
 refine a0m (v := ?_) rfl rfl (fun xq wx => ?_) ?_
 rotate_left 1
 ·(go_simp; with_reducible rfl)
 try simp only [clL]
 refine a0m (v := ?_) rfl rfl (fun xq wx => ?_) ?_
 rotate_left 1
 ·(go_simp; with_reducible rfl)
 try simp only [clL]
 refine b0m (v := ?_) rfl rfl (fun xq wx hS => ?_) ?_
 rotate_left 1
 ·(have hc := (HCV.out.keep (St.fr hS) id).cell (i := 0) rfl; clear hS; go_simp; with_reducible rfl)
 try simp only [clL]
 refine a0d rfl rfl rfl (fun _ => rfl) (cw 4 (elN m s2)) (fun wx hS => St.rangeL hS 8 rfl 0 _ dZl) Tryz.underlying66 rfl (by kernel_rfl) ?_
 try simp only [clL]
 refine a0d rfl rfl rfl (fun _ => rfl) (cw 4 (elN m s1)) (fun wx hS => St.rangeL hS 7 rfl 0 _ dZl) Tryz.underlying66 rfl (by kernel_rfl) ?_
 try simp only [clL]
 refine a0c rfl rfl rfl Tryz.call182 (fun w hS hR => g0B m gp _ HOK.out (HPM.out.keep hS.fr id) u2 u1 hd Hhd.out) (fun _ => rfl) ?_
 try simp only [clL]
 refine a0c rfl rfl rfl Tryz.call182 (fun w hS hR => g0B m gp _ HOK.out (HPM.out.keep hS.fr id) s2 s1 rr Hrr.out) (fun _ => rfl) ?_
 try simp only [clL]
 refine b0f (List.mem_cons_of_mem _ List.mem_cons_self) fun g13 => ?_
 simp only [upd, reduceIte]
 try simp only [Nat.reduceEqDiff, reduceIte]
 refine b0f List.mem_cons_self fun g14 => ?_
 simp only [upd, reduceIte]
 refine a0t fun xq w15 st15 hR => ?_
 try dsimp only
 clear hR xq
 refine a0w rfl rfl ?_
 refine a0h st15 9 rfl rfl rfl rfl (by simp [a0i]) (by kernel_rfl) (a0f _ _) ?_
 intro w16 st16
 repeat (first | simp only [List.cons_append] at st16 | simp only [List.nil_append] at st16 | simp only [List.set_cons_succ] at st16 | simp only [List.set_cons_zero] at st16)
 clear st15
 refine ⟨by first | exact st16 | exact St.less st16 (by simp), ?_⟩
 try simp only [Act.put]
 refine a0q rfl rfl ?_
 refine a0h st16 10 rfl rfl rfl rfl (by simp [a0i]) (by kernel_rfl) (a0f _ _) ?_
 intro w17 st17
 try simp only [List.set_cons_zero, List.set_cons_succ] at st17
 clear st16
 try simp only [Act.put]
 refine a0g ?_
 refine NoPanic.normal ?_
 rcases Bool.eq_false_or_eq_true (hd % m.M == 0) with hh0 | hh0
 ·have HHZ := qH hh0
  rcases Bool.eq_false_or_eq_true (rr % m.M == 0) with hr0 | hr0
  ·have HRZ := qH hr0
   have HDB := qH (show ∀ wx, Fr Nob w wx → Calls Tryz.prog 158 #[.pointer (some ⟨gc, 0, none⟩), .agg (cw 4 (elN m x1) ++ (cw 4 (elN m y1) ++ cw 4 (elN m z1))).toArray] wx fun e w' => e = .returned (.agg (cw 4 (elN m DX) ++ (cw 4 (elN m DY) ++ cw 4 (elN m DZ))).toArray) ∧ Fr Nob wx w' from HD0.out hh0 hr0)
   clear hh0 hr0 HD0
   go_wp2_with (with_reducible refine wSk 101 ?_)
   refine a0k st17 9 rfl rfl rfl Tryz.underlying66 rfl (by kernel_rfl) ?_
   go_wp2_with fail
   refine (d0J m HOK.out hd true HHZ.out _).mono ?_
   rintro e' w18 ⟨rfl, hf18⟩
   have st18 := st17.keep hf18
   clear st17 hf18
   go_wp2_with (with_reducible refine wSk 103 ?_)
   refine a0k st18 10 rfl rfl rfl Tryz.underlying66 rfl (by kernel_rfl) ?_
   go_wp2_with fail
   refine (d0J m HOK.out rr true HRZ.out _).mono ?_
   rintro e' w19 ⟨rfl, hf19⟩
   have st19 := st18.keep hf19
   clear st18 hf19
   go_wp2_with (with_reducible refine wSk 106 ?_)
   refine a0p st19 0 rfl rfl rfl Tryz.underlying117 rfl rfl (by kernel_rfl) ?_
   go_wp2_with fail
   refine (HDB.out _ st19.fr).mono ?_
   rintro e' w20 ⟨rfl, hf20⟩
   have st20 := st19.keep hf20
   clear st19 hf20
   go_wp2_with (with_reducible refine wSn ?_)
   refine a0b st20 2 rfl rfl rfl rfl rfl (by simp [a0i]) (by kernel_rfl) (b0i _ _ _) ?_
   intro w21 st21
   clear st20
   have hr := st21.at 2 rfl
   have hfr := st21.fr
   clear st21
   go_wp2_with fail
   exact bodyPost_ret (a0r rfl rfl hr Tryz.underlying117 rfl (by kernel_rfl)) rfl ⟨by rw [HHZ.out, HRZ.out]; rfl, hfr⟩
  ·have HRZ := qH hr0
   clear hh0 hr0 HD0
   go_wp2_with (with_reducible refine wSk 101 ?_)
   refine a0k st17 9 rfl rfl rfl Tryz.underlying66 rfl (by kernel_rfl) ?_
   go_wp2_with fail
   refine (d0J m HOK.out hd true HHZ.out _).mono ?_
   rintro e' w18 ⟨rfl, hf18⟩
   have st18 := st17.keep hf18
   clear st17 hf18
   go_wp2_with (with_reducible refine wSk 103 ?_)
   refine a0k st18 10 rfl rfl rfl Tryz.underlying66 rfl (by kernel_rfl) ?_
   go_wp2_with fail
   refine (d0J m HOK.out rr false HRZ.out _).mono ?_
   rintro e' w19 ⟨rfl, hf19⟩
   have st19 := st18.keep hf19
   clear st18 hf19
   go_wp2_with fail
   refine (n0k m gc gp bx by_ _ HOK.out (HCV.out.keep st19.fr id) (HPM.out.keep st19.fr id)).mono ?_
   rintro e' w20 ⟨rfl, hf20⟩
   have st20 := st19.keep hf20
   clear st19 hf20
   go_wp2_with (with_reducible refine wSn ?_)
   refine a0b st20 2 rfl rfl rfl rfl rfl (by simp [a0i]) (by kernel_rfl) (b0i _ _ _) ?_
   intro w21 st21
   clear st20
   have hr := st21.at 2 rfl
   have hfr := st21.fr
   clear st21
   go_wp2_with fail
   exact bodyPost_ret (a0r rfl rfl hr Tryz.underlying117 rfl (by kernel_rfl)) rfl ⟨by rw [HHZ.out, HRZ.out]; rfl, hfr⟩
 ·have HHZ := qH hh0
  clear hh0 HD0
  go_wp2_with (with_reducible refine wSk 101 ?_)
  refine a0k st17 9 rfl rfl rfl Tryz.underlying66 rfl (by kernel_rfl) ?_
  go_wp2_with fail
  refine (d0J m HOK.out hd false HHZ.out _).mono ?_
  rintro e' w18 ⟨rfl, hf18⟩
  have st18 := st17.keep hf18
  clear st17 hf18
  go_wp2_with fail
  refine wp_region_noPanic ?_
  refine a0e st18 7 [.o 6, .w 0, .w 1, .w 2, .t 3, .t 4, .c 5, .j 6] (.m 7 .nil) (by kernel_rfl) (by kernel_rfl) (fun _ _ _ _ _ h => h) ?_
  clear st18
  refine b0p rfl rfl rfl j0z (cw 4 0) rfl ?_
  try simp only [clL]
  refine a0m (v := ?_) rfl rfl (fun xq wx => ?_) ?_
  rotate_left 1
  ·(go_simp; with_reducible rfl)
  try simp only [clL]
  refine a0m (v := ?_) rfl rfl (fun xq wx => ?_) ?_
  rotate_left 1
  ·(go_simp; with_reducible rfl)
  try simp only [clL]
  refine a0m (v := ?_) rfl rfl (fun xq wx => ?_) ?_
  rotate_left 1
  ·(go_simp; with_reducible rfl)
  try simp only [clL]
  refine b0m (v := ?_) rfl rfl (fun xq wx hS => ?_) ?_
  rotate_left 1
  ·(have hc := (HCV.out.keep (St.fr hS) id).cell (i := 0) rfl; clear hS; go_simp; with_reducible rfl)
  try simp only [clL]
  refine a0d rfl rfl rfl (fun _ => rfl) (cw 4 (elN m hd)) (fun wx hS => St.rangeL hS 9 rfl 0 _ dZl) Tryz.underlying66 rfl (by kernel_rfl) ?_
  try simp only [clL]
  refine a0c rfl rfl rfl Tryz.call151 (fun w hS hR => b0X m gp _ HOK.out (HPM.out.keep hS.fr id) hd hh Hhh.out) (fun _ => rfl) ?_
  try simp only [clL]
  refine b0f List.mem_cons_self fun g15 => ?_
  simp only [upd, reduceIte]
  refine a0t fun xq w19 st19 hR => ?_
  try dsimp only
  clear hR xq
  refine a0q rfl rfl ?_
  refine a0h st19 11 rfl rfl rfl rfl (by simp [a0i]) (by kernel_rfl) (a0f _ _) ?_
  intro w20 st20
  repeat (first | simp only [List.cons_append] at st20 | simp only [List.nil_append] at st20 | simp only [List.set_cons_succ] at st20 | simp only [List.set_cons_zero] at st20)
  clear st19
  try simp only [Act.put]
  refine a0g ?_
  refine NoPanic.normal ?_
  go_wp2_with fail
  refine wp_region_noPanic ?_
  refine a0e st20 8 [.o 7, .w 0, .w 1, .w 2, .t 3, .t 4, .t 5, .c 6, .j 7] (.m 8 .nil) (by kernel_rfl) (by kernel_rfl) (fun _ _ _ _ _ h => h) ?_
  clear st20
  refine b0p rfl rfl rfl j0z (cw 4 0) rfl ?_
  try simp only [clL]
  refine a0m (v := ?_) rfl rfl (fun xq wx => ?_) ?_
  rotate_left 1
  ·(go_simp; with_reducible rfl)
  try simp only [clL]
  refine a0m (v := ?_) rfl rfl (fun xq wx => ?_) ?_
  rotate_left 1
  ·(go_simp; with_reducible rfl)
  try simp only [clL]
  refine a0m (v := ?_) rfl rfl (fun xq wx => ?_) ?_
  rotate_left 1
  ·(go_simp; with_reducible rfl)
  try simp only [clL]
  refine b0m (v := ?_) rfl rfl (fun xq wx hS => ?_) ?_
  rotate_left 1
  ·(have hc := (HCV.out.keep (St.fr hS) id).cell (i := 0) rfl; clear hS; go_simp; with_reducible rfl)
  try simp only [clL]
  refine a0d rfl rfl rfl (fun _ => rfl) (cw 4 (elN m hh)) (fun wx hS => St.rangeL hS 11 rfl 0 _ dZl) Tryz.underlying66 rfl (by kernel_rfl) ?_
  try simp only [clL]
  refine a0d rfl rfl rfl (fun _ => rfl) (cw 4 (elN m hd)) (fun wx hS => St.rangeL hS 9 rfl 0 _ dZl) Tryz.underlying66 rfl (by kernel_rfl) ?_
  try simp only [clL]
  refine a0c rfl rfl rfl Tryz.call152 (fun w hS hR => c0o m gp _ HOK.out (HPM.out.keep hS.fr id) hh hd h3 Hh3.out) (fun _ => rfl) ?_
  try simp only [clL]
  refine b0f List.mem_cons_self fun g16 => ?_
  simp only [upd, reduceIte]
  refine a0t fun xq w21 st21 hR => ?_
  try dsimp only
  clear hR xq
  refine a0q rfl rfl ?_
  refine a0h st21 12 rfl rfl rfl rfl (by simp [a0i]) (by kernel_rfl) (a0f _ _) ?_
  intro w22 st22
  repeat (first | simp only [List.cons_append] at st22 | simp only [List.nil_append] at st22 | simp only [List.set_cons_succ] at st22 | simp only [List.set_cons_zero] at st22)
  clear st21
  try simp only [Act.put]
  refine a0g ?_
  refine NoPanic.normal ?_
  go_wp2_with fail
  refine wp_region_noPanic ?_
  refine a0e st22 8 [.o 7, .w 0, .w 1, .w 2, .t 3, .t 4, .t 5, .c 6, .j 7] (.m 8 .nil) (by kernel_rfl) (by kernel_rfl) (fun _ _ _ _ _ h => h) ?_
  clear st22
  refine b0p rfl rfl rfl j0z (cw 4 0) rfl ?_
  try simp only [clL]
  refine a0m (v := ?_) rfl rfl (fun xq wx => ?_) ?_
  rotate_left 1
  ·(go_simp; with_reducible rfl)
  try simp only [clL]
  refine a0m (v := ?_) rfl rfl (fun xq wx => ?_) ?_
  rotate_left 1
  ·(go_simp; with_reducible rfl)
  try simp only [clL]
  refine a0m (v := ?_) rfl rfl (fun xq wx => ?_) ?_
  rotate_left 1
  ·(go_simp; with_reducible rfl)
  try simp only [clL]
  refine b0m (v := ?_) rfl rfl (fun xq wx hS => ?_) ?_
  rotate_left 1
  ·(have hc := (HCV.out.keep (St.fr hS) id).cell (i := 0) rfl; clear hS; go_simp; with_reducible rfl)
  try simp only [clL]
  refine a0d rfl rfl rfl (fun _ => rfl) (cw 4 (elN m u1)) (fun wx hS => St.rangeL hS 5 rfl 0 _ dZl) Tryz.underlying66 rfl (by kernel_rfl) ?_
  try simp only [clL]
  refine a0d rfl rfl rfl (fun _ => rfl) (cw 4 (elN m hh)) (fun wx hS => St.rangeL hS 11 rfl 0 _ dZl) Tryz.underlying66 rfl (by kernel_rfl) ?_
  try simp only [clL]
  refine a0c rfl rfl rfl Tryz.call152 (fun w hS hR => c0o m gp _ HOK.out (HPM.out.keep hS.fr id) u1 hh v Hv.out) (fun _ => rfl) ?_
  try simp only [clL]
  refine b0f List.mem_cons_self fun g17 => ?_
  simp only [upd, reduceIte]
  refine a0t fun xq w23 st23 hR => ?_
  try dsimp only
  clear hR xq
  refine a0q rfl rfl ?_
  refine a0h st23 13 rfl rfl rfl rfl (by simp [a0i]) (by kernel_rfl) (a0f _ _) ?_
  intro w24 st24
  repeat (first | simp only [List.cons_append] at st24 | simp only [List.nil_append] at st24 | simp only [List.set_cons_succ] at st24 | simp only [List.set_cons_zero] at st24)
  clear st23
  try simp only [Act.put]
  refine a0g ?_
  refine NoPanic.normal ?_
  go_wp2_with fail
  refine wp_region_noPanic ?_
  refine a0e st24 25 [.o 24, .w 0, .w 1, .w 2, .t 3, .w 4, .w 5, .w 6, .t 7, .t 8, .w 10, .w 11, .w 12, .t 13, .t 14, .w 15, .w 16, .w 17, .t 18, .t 19, .t 20, .c 9, .c 21, .c 22, .c 23, .j 24] (.m 25 .nil) (by kernel_rfl) (by kernel_rfl) (fun _ _ _ _ _ h => h) ?_
  clear st24
  refine b0p rfl rfl rfl j0z (cw 4 0) rfl ?_
  try simp only [clL]
  refine a0m (v := ?_) rfl rfl (fun xq wx => ?_) ?_
  rotate_left 1
  ·(go_simp; with_reducible rfl)
  try simp only [clL]
  refine a0m (v := ?_) rfl rfl (fun xq wx => ?_) ?_
  rotate_left 1
  ·(go_simp; with_reducible rfl)
  try simp only [clL]
  refine a0m (v := ?_) rfl rfl (fun xq wx => ?_) ?_
  rotate_left 1
  ·(go_simp; with_reducible rfl)
  try simp only [clL]
  refine b0m (v := ?_) rfl rfl (fun xq wx hS => ?_) ?_
  rotate_left 1
  ·(have hc := (HCV.out.keep (St.fr hS) id).cell (i := 0) rfl; clear hS; go_simp; with_reducible rfl)
  try simp only [clL]
  refine a0m (v := ?_) rfl rfl (fun xq wx => ?_) ?_
  rotate_left 1
  ·(go_simp; with_reducible rfl)
  try simp only [clL]
  refine a0m (v := ?_) rfl rfl (fun xq wx => ?_) ?_
  rotate_left 1
  ·(go_simp; with_reducible rfl)
  try simp only [clL]
  refine a0m (v := ?_) rfl rfl (fun xq wx => ?_) ?_
  rotate_left 1
  ·(go_simp; with_reducible rfl)
  try simp only [clL]
  refine b0m (v := ?_) rfl rfl (fun xq wx hS => ?_) ?_
  rotate_left 1
  ·(have hc := (HCV.out.keep (St.fr hS) id).cell (i := 0) rfl; clear hS; go_simp; with_reducible rfl)
  try simp only [clL]
  refine a0d rfl rfl rfl (fun _ => rfl) (cw 4 (elN m rr)) (fun wx hS => St.rangeL hS 10 rfl 0 _ dZl) Tryz.underlying66 rfl (by kernel_rfl) ?_
  try simp only [clL]
  refine a0m (v := ?_) rfl rfl (fun xq wx => ?_) ?_
  rotate_left 1
  ·(go_simp; with_reducible rfl)
  try simp only [clL]
  refine a0m (v := ?_) rfl rfl (fun xq wx => ?_) ?_
  rotate_left 1
  ·(go_simp; with_reducible rfl)
  try simp only [clL]
  refine a0m (v := ?_) rfl rfl (fun xq wx => ?_) ?_
  rotate_left 1
  ·(go_simp; with_reducible rfl)
  try simp only [clL]
  refine b0m (v := ?_) rfl rfl (fun xq wx hS => ?_) ?_
  rotate_left 1
  ·(have hc := (HCV.out.keep (St.fr hS) id).cell (i := 0) rfl; clear hS; go_simp; with_reducible rfl)
  try simp only [clL]
  refine a0d rfl rfl rfl (fun _ => rfl) (cw 4 (elN m h3)) (fun wx hS => St.rangeL hS 12 rfl 0 _ dZl) Tryz.underlying66 rfl (by kernel_rfl) ?_
  try simp only [clL]
  refine a0m (v := ?_) rfl rfl (fun xq wx => ?_) ?_
  rotate_left 1
  ·(go_simp; with_reducible rfl)
  try simp only [clL]
  refine a0m (v := ?_) rfl rfl (fun xq wx => ?_) ?_
  rotate_left 1
  ·(go_simp; with_reducible rfl)
  try simp only [clL]
  refine a0m (v := ?_) rfl rfl (fun xq wx => ?_) ?_
  rotate_left 1
  ·(go_simp; with_reducible rfl)
  try simp only [clL]
  refine b0m (v := ?_) rfl rfl (fun xq wx hS => ?_) ?_
  rotate_left 1
  ·(have hc := (HCV.out.keep (St.fr hS) id).cell (i := 0) rfl; clear hS; go_simp; with_reducible rfl)
  try simp only [clL]
  refine a0d rfl rfl rfl (fun _ => rfl) (cw 4 (elN m v)) (fun wx hS => St.rangeL hS 13 rfl 0 _ dZl) Tryz.underlying66 rfl (by kernel_rfl) ?_
  try simp only [clL]
  refine a0d rfl rfl rfl (fun _ => rfl) (cw 4 (elN m v)) (fun wx hS => St.rangeL hS 13 rfl 0 _ dZl) Tryz.underlying66 rfl (by kernel_rfl) ?_
  try simp only [clL]
  refine a0c rfl rfl rfl Tryz.call151 (fun w hS hR => b0X m gp _ HOK.out (HPM.out.keep hS.fr id) rr r2 Hr2.out) (fun _ => rfl) ?_
  try simp only [clL]
  refine a0c rfl rfl rfl Tryz.call171 (fun w hS hR => d0X m gp _ HOK.out (HPM.out.keep hS.fr id) v v v2 Hv2.out) (fun _ => rfl) ?_
  try simp only [clL]
  refine a0c rfl rfl rfl Tryz.call171 (fun w hS hR => d0X m gp _ HOK.out (HPM.out.keep hS.fr id) h3 v2 t1 Ht1.out) (fun _ => rfl) ?_
  try simp only [clL]
  refine a0c rfl rfl rfl Tryz.call182 (fun w hS hR => g0B m gp _ HOK.out (HPM.out.keep hS.fr id) r2 t1 X HX.out) (fun _ => rfl) ?_
  try simp only [clL]
  refine b0f List.mem_cons_self fun g18 => ?_
  simp only [upd, reduceIte]
  refine a0t fun xq w25 st25 hR => ?_
  try dsimp only
  clear hR xq
  refine a0q rfl rfl ?_
  refine a0h st25 14 rfl rfl rfl rfl (by simp [a0i]) (by kernel_rfl) (a0f _ _) ?_
  intro w26 st26
  repeat (first | simp only [List.cons_append] at st26 | simp only [List.nil_append] at st26 | simp only [List.set_cons_succ] at st26 | simp only [List.set_cons_zero] at st26)
  clear st25
  try simp only [Act.put]
  refine a0g ?_
  refine NoPanic.normal ?_
  go_wp2_with fail
  refine wp_region_noPanic ?_
  refine a0e st26 42 [.t 0, .w 1, .w 2, .w 3, .t 4, .w 5, .w 6, .w 7, .t 8, .t 9, .w 10, .w 11, .w 12, .t 13, .t 14, .t 15, .w 18, .w 19, .w 20, .t 21, .t 22, .t 23, .w 26, .w 27, .w 28, .t 29, .t 30, .w 31, .w 32, .w 33, .t 34, .w 35, .t 36, .w 37, .t 38, .c 16, .c 17, .c 24, .c 25, .c 39, .c 40, .w 41] (.m 42 .nil) (by kernel_rfl) (by kernel_rfl) (fun _ _ _ _ _ h => h) ?_
  clear st26
  refine a0d rfl rfl rfl (fun _ => rfl) (cw 4 (elN m X)) (fun wx hS => St.rangeL hS 14 rfl 0 _ dZl) Tryz.underlying66 rfl (by kernel_rfl) ?_
  try simp only [clL]
  refine a0m (v := ?_) rfl rfl (fun xq wx => ?_) ?_
  rotate_left 1
  ·(go_simp; with_reducible rfl)
  try simp only [clL]
  refine a0m (v := ?_) rfl rfl (fun xq wx => ?_) ?_
  rotate_left 1
  ·(go_simp; with_reducible rfl)
  try simp only [clL]
  refine a0m (v := ?_) rfl rfl (fun xq wx => ?_) ?_
  rotate_left 1
  ·(go_simp; with_reducible rfl)
  try simp only [clL]
  refine b0m (v := ?_) rfl rfl (fun xq wx hS => ?_) ?_
  rotate_left 1
  ·(have hc := (HCV.out.keep (St.fr hS) id).cell (i := 0) rfl; clear hS; go_simp; with_reducible rfl)
  try simp only [clL]
  refine a0m (v := ?_) rfl rfl (fun xq wx => ?_) ?_
  rotate_left 1
  ·(go_simp; with_reducible rfl)
  try simp only [clL]
  refine a0m (v := ?_) rfl rfl (fun xq wx => ?_) ?_
  rotate_left 1
  ·(go_simp; with_reducible rfl)
  try simp only [clL]
  refine a0m (v := ?_) rfl rfl (fun xq wx => ?_) ?_
  rotate_left 1
  ·(go_simp; with_reducible rfl)
  try simp only [clL]
  refine b0m (v := ?_) rfl rfl (fun xq wx hS => ?_) ?_
  rotate_left 1
  ·(have hc := (HCV.out.keep (St.fr hS) id).cell (i := 0) rfl; clear hS; go_simp; with_reducible rfl)
  try simp only [clL]
  refine a0d rfl rfl rfl (fun _ => rfl) (cw 4 (elN m rr)) (fun wx hS => St.rangeL hS 10 rfl 0 _ dZl) Tryz.underlying66 rfl (by kernel_rfl) ?_
  try simp only [clL]
  refine a0m (v := ?_) rfl rfl (fun xq wx => ?_) ?_
  rotate_left 1
  ·(go_simp; with_reducible rfl)
  try simp only [clL]
  refine a0m (v := ?_) rfl rfl (fun xq wx => ?_) ?_
  rotate_left 1
  ·(go_simp; with_reducible rfl)
  try simp only [clL]
  refine a0m (v := ?_) rfl rfl (fun xq wx => ?_) ?_
  rotate_left 1
  ·(go_simp; with_reducible rfl)
  try simp only [clL]
  refine b0m (v := ?_) rfl rfl (fun xq wx hS => ?_) ?_
  rotate_left 1
  ·(have hc := (HCV.out.keep (St.fr hS) id).cell (i := 0) rfl; clear hS; go_simp; with_reducible rfl)
  try simp only [clL]
  refine a0d rfl rfl rfl (fun _ => rfl) (cw 4 (elN m v)) (fun wx hS => St.rangeL hS 13 rfl 0 _ dZl) Tryz.underlying66 rfl (by kernel_rfl) ?_
  try simp only [clL]
  refine a0d rfl rfl rfl (fun _ => rfl) (cw 4 (elN m X)) (fun wx hS => St.rangeL hS 14 rfl 0 _ dZl) Tryz.underlying66 rfl (by kernel_rfl) ?_
  try simp only [clL]
  refine a0m (v := ?_) rfl rfl (fun xq wx => ?_) ?_
  rotate_left 1
  ·(go_simp; with_reducible rfl)
  try simp only [clL]
  refine a0m (v := ?_) rfl rfl (fun xq wx => ?_) ?_
  rotate_left 1
  ·(go_simp; with_reducible rfl)
  try simp only [clL]
  refine a0m (v := ?_) rfl rfl (fun xq wx => ?_) ?_
  rotate_left 1
  ·(go_simp; with_reducible rfl)
  try simp only [clL]
  refine b0m (v := ?_) rfl rfl (fun xq wx hS => ?_) ?_
  rotate_left 1
  ·(have hc := (HCV.out.keep (St.fr hS) id).cell (i := 0) rfl; clear hS; go_simp; with_reducible rfl)
  try simp only [clL]
  refine a0d rfl rfl rfl (fun _ => rfl) (cw 4 (elN m s1)) (fun wx hS => St.rangeL hS 7 rfl 0 _ dZl) Tryz.underlying66 rfl (by kernel_rfl) ?_
  try simp only [clL]
  refine a0d rfl rfl rfl (fun _ => rfl) (cw 4 (elN m h3)) (fun wx hS => St.rangeL hS 12 rfl 0 _ dZl) Tryz.underlying66 rfl (by kernel_rfl) ?_
  try simp only [clL]
  refine a0m (v := ?_) rfl rfl (fun xq wx => ?_) ?_
  rotate_left 1
  ·(go_simp; with_reducible rfl)
  try simp only [clL]
  refine a0m (v := ?_) rfl rfl (fun xq wx => ?_) ?_
  rotate_left 1
  ·(go_simp; with_reducible rfl)
  try simp only [clL]
  refine a0m (v := ?_) rfl rfl (fun xq wx => ?_) ?_
  rotate_left 1
  ·(go_simp; with_reducible rfl)
  try simp only [clL]
  refine b0m (v := ?_) rfl rfl (fun xq wx hS => ?_) ?_
  rotate_left 1
  ·(have hc := (HCV.out.keep (St.fr hS) id).cell (i := 0) rfl; clear hS; go_simp; with_reducible rfl)
  try simp only [clL]
  refine a0d rfl rfl rfl (fun _ => rfl) (cw 4 (elN m hd)) (fun wx hS => St.rangeL hS 9 rfl 0 _ dZl) Tryz.underlying66 rfl (by kernel_rfl) ?_
  try simp only [clL]
  refine a0m (v := ?_) rfl rfl (fun xq wx => ?_) ?_
  rotate_left 1
  ·(go_simp; with_reducible rfl)
  try simp only [clL]
  refine a0m (v := ?_) rfl rfl (fun xq wx => ?_) ?_
  rotate_left 1
  ·(go_simp; with_reducible rfl)
  try simp only [clL]
  refine a0m (v := ?_) rfl rfl (fun xq wx => ?_) ?_
  rotate_left 1
  ·(go_simp; with_reducible rfl)
  try simp only [clL]
  refine b0m (v := ?_) rfl rfl (fun xq wx hS => ?_) ?_
  rotate_left 1
  ·(have hc := (HCV.out.keep (St.fr hS) id).cell (i := 0) rfl; clear hS; go_simp; with_reducible rfl)
  try simp only [clL]
  refine a0m (v := ?_) rfl rfl (fun xq wx => ?_) ?_
  rotate_left 1
  ·(go_simp; with_reducible rfl)
  try simp only [clL]
  refine a0d rfl rfl rfl (fun _ => rfl) (cw 4 (elN m z1)) (fun wx hS => St.rangeL hS 0 rfl 8 _ (g0y _ _ _)) Tryz.underlying66 rfl (by kernel_rfl) ?_
  try simp only [clL]
  refine a0m (v := ?_) rfl rfl (fun xq wx => ?_) ?_
  rotate_left 1
  ·(go_simp; with_reducible rfl)
  try simp only [clL]
  refine a0d rfl rfl rfl (fun _ => rfl) (cw 4 (elN m z2)) (fun wx hS => St.rangeL hS 1 rfl 8 _ (g0y _ _ _)) Tryz.underlying66 rfl (by kernel_rfl) ?_
  try simp only [clL]
  refine a0c rfl rfl rfl Tryz.call182 (fun w hS hR => g0B m gp _ HOK.out (HPM.out.keep hS.fr id) v X t2 Ht2.out) (fun _ => rfl) ?_
  try simp only [clL]
  refine a0c rfl rfl rfl Tryz.call152 (fun w hS hR => c0o m gp _ HOK.out (HPM.out.keep hS.fr id) rr t2 t3 Ht3.out) (fun _ => rfl) ?_
  try simp only [clL]
  refine a0c rfl rfl rfl Tryz.call152 (fun w hS hR => c0o m gp _ HOK.out (HPM.out.keep hS.fr id) s1 h3 t4 Ht4.out) (fun _ => rfl) ?_
  try simp only [clL]
  refine a0c rfl rfl rfl Tryz.call182 (fun w hS hR => g0B m gp _ HOK.out (HPM.out.keep hS.fr id) t3 t4 Y HY.out) (fun _ => rfl) ?_
  try simp only [clL]
  refine a0c rfl rfl rfl Tryz.call152 (fun w hS hR => c0o m gp _ HOK.out (HPM.out.keep hS.fr id) z1 z2 zz Hzz.out) (fun _ => rfl) ?_
  try simp only [clL]
  refine a0c rfl rfl rfl Tryz.call152 (fun w hS hR => c0o m gp _ HOK.out (HPM.out.keep hS.fr id) hd zz Z HZ.out) (fun _ => rfl) ?_
  try simp only [clL]
  refine a0m rfl rfl (fun _ => b0A rfl _ (f0w _ _ _)) ?_
  try simp only [clL]
  refine a0t fun xq w27 st27 hR => ?_
  try dsimp only
  clear hR xq
  refine a0q rfl rfl ?_
  refine a0h st27 2 rfl rfl rfl rfl (by simp [a0i]) (by kernel_rfl) (b0i _ _ _) ?_
  intro w28 st28
  try simp only [List.set_cons_zero, List.set_cons_succ] at st28
  clear st27
  try simp only [Act.put]
  refine a0g ?_
  refine NoPanic.normal ?_
  have hr := st28.at 2 rfl
  have hfr := st28.fr
  clear st28
  go_wp2_with fail
  exact bodyPost_ret (a0r rfl rfl hr Tryz.underlying117 rfl (by kernel_rfl)) rfl ⟨by rw [HHZ.out]; rfl, hfr⟩
end
section
open Go.RowKit Go.Mv Mvp Mvq
theorem x0a : kc 0 = 0 := by decide
theorem A0y (x1 y1 z1 x2 y2 z2 : Nat) (ho1 : onC (jN x1 y1 z1)) (ho2 : onC (jN x2 y2 z2)) :
  ∃ X Y Z, jN X Y Z = a0T (jN x1 y1 z1) (jN x2 y2 z2) ∧ ∀ gc gp bx by_ wx, Has wx gc (e0b mP gp bx by_) 125 → Has wx gp (mdL mP) 187 → Calls Tryz.prog 159 #[.pointer (some ⟨gc, 0, none⟩), ptV mP x1 y1 z1, ptV mP x2 y2 z2] wx fun e w' => e = .returned (ptV mP X Y Z) ∧ Fr Nob wx w' := by
 cases hb1 : (z1 % mP.M == 0)
 case true =>
  have hz : kc z1 = 0 := by simpa using s0i _ c0S z1 _ hb1
  refine ⟨x2, y2, z2, ?_, fun gc gp bx by_ wx hcv hpm => r0F mP gc gp bx by_ wx b0Z hcv hpm x1 y1 z1 x2 y2 z2 hb1⟩
  unfold jN
  rw [A0s hz]; rfl
 case false =>
  have hz1 : kc z1 ≠ 0 := by simpa using s0i _ c0S z1 _ hb1
  cases hb2 : (z2 % mP.M == 0)
  case true =>
   have hz : kc z2 = 0 := by simpa using s0i _ c0S z2 _ hb2
   refine ⟨x1, y1, z1, ?_, fun gc gp bx by_ wx hcv hpm => r0G mP gc gp bx by_ wx b0Z hcv hpm x1 y1 z1 x2 y2 z2 hb1 hb2⟩
   unfold jN
   rw [A0s hz, b0w]
  case false =>
   have hz2 : kc z2 ≠ 0 := by simpa using s0i _ c0S z2 _ hb2
   obtain ⟨pp, epp⟩ : ∃ q, z1 * z1 = q := ⟨_, rfl⟩
   obtain ⟨qq, eqq⟩ : ∃ q, z2 * z2 = q := ⟨_, rfl⟩
   obtain ⟨u1, eu1⟩ : ∃ q, x1 * qq = q := ⟨_, rfl⟩
   obtain ⟨u2, eu2⟩ : ∃ q, x2 * pp = q := ⟨_, rfl⟩
   obtain ⟨q3, eq3⟩ : ∃ q, qq * z2 = q := ⟨_, rfl⟩
   obtain ⟨s1, es1⟩ : ∃ q, y1 * q3 = q := ⟨_, rfl⟩
   obtain ⟨p3, ep3⟩ : ∃ q, pp * z1 = q := ⟨_, rfl⟩
   obtain ⟨s2, es2⟩ : ∃ q, y2 * p3 = q := ⟨_, rfl⟩
   obtain ⟨hd, ehd⟩ : ∃ q, u2 + (mP.M - u1 % mP.M) = q := ⟨_, rfl⟩
   obtain ⟨rr, err⟩ : ∃ q, s2 + (mP.M - s1 % mP.M) = q := ⟨_, rfl⟩
   have ku1 : kc u1 = kc x1 * (kc z2 * kc z2) := by rw [← eu1, ← eqq, a0K, a0K]
   have ku2 : kc u2 = kc x2 * (kc z1 * kc z1) := by rw [← eu2, ← epp, a0K, a0K]
   have ks1 : kc s1 = kc y1 * (kc z2 * kc z2 * kc z2) := by rw [← es1, ← eq3, ← eqq, a0K, a0K, a0K]
   have ks2 : kc s2 = kc y2 * (kc z1 * kc z1 * kc z1) := by rw [← es2, ← ep3, ← epp, a0K, a0K, a0K]
   have khd : kc hd = kc u2 - kc u1 := by rw [← ehd, l0p _ c0S]
   have krr : kc rr = kc s2 - kc s1 := by rw [← err, l0p _ c0S]
   obtain ⟨DX, DY, DZ, hX, hcall⟩ := n0j x1 y1 z1 ho1
   have hcal := fun gc gp bx by_ wx (hcv : Has wx gc (e0b mP gp bx by_) 125) (hpm : Has wx gp (mdL mP) 187) => t0Q mP gc gp bx by_ wx b0Z hcv hpm x1 y1 z1 x2 y2 z2 hb1 hb2 pp qq u1 u2 q3 s1 p3 s2 hd rr _ _ _ _ _ _ _ _ _ _ _ _ _ DX DY DZ epp eqq eu1 eu2 eq3 es1 ep3 es2 ehd err rfl rfl rfl rfl rfl rfl rfl rfl rfl rfl rfl rfl rfl (fun _ _ wy hf2 => hcall gc gp bx by_ wy (hcv.keep hf2 id) (hpm.keep hf2 id))
   cases hh : (hd % mP.M == 0)
   case false =>
    have hn : kc hd ≠ 0 := by simpa using s0i _ c0S hd _ hh
    rw [hh] at hcal
    refine ⟨_, _, _, ?_, fun gc gp bx by_ wx hcv hpm => hcal gc gp bx by_ wx hcv hpm⟩
    have h := A0u ho1 ho2 hz1 hz2 (kc u1) (kc u2) (kc s1) (kc s2) (kc hd) (kc rr) _ _ _ _ ku1 ku2 ks1 ks2 khd krr hn rfl rfl rfl rfl
    unfold jN at *
    rw [← h]
    simp only [l0p _ c0S, h0i, a0K]
   case true =>
    have h0 : kc hd = 0 := by simpa using s0i _ c0S hd _ hh
    have hs := A0v ho1 ho2 hz1 hz2 (by rw [← ku1, ← ku2, ← khd]; exact h0)
    rw [← ks1, ← ks2, ← krr] at hs
    cases hr : (rr % mP.M == 0)
    case true =>
     have hr0 : kc rr = 0 := by simpa using s0i _ c0S rr _ hr
     rw [hh, hr] at hcal
     refine ⟨DX, DY, DZ, ?_, fun gc gp bx by_ wx hcv hpm => hcal gc gp bx by_ wx hcv hpm⟩
     have e := hs.1 hr0
     unfold jN at *
     rw [hX, e]
    case false =>
     have hr0 : kc rr ≠ 0 := by simpa using s0i _ c0S rr _ hr
     rw [hh, hr] at hcal
     refine ⟨1, 1, 0, ?_, fun gc gp bx by_ wx hcv hpm => hcal gc gp bx by_ wx hcv hpm⟩
     have e := hs.2 hr0
     unfold jN at *
     rw [e, A0s x0a]
end
end Go.Proofs.YtemcankmggmgoaaGreat
namespace Mvq
open Mvp
structure FP (M : Nat) : Prop where
 prime : IsP M
 odd : M % 2 = 1
 big : 3 < M
theorem FP.inv {M a : Nat} (h : FP M) (ha : a < M) (h0 : a ≠ 0) : a * (a ^ (M - 2) % M) % M = 1 := by
 have hd : ¬ M ∣ a := fun hx => by have := Nat.le_of_dvd ap16 hx; omega
 have hb := h.big
 rw [Nat.mul_mod_mod, Nat.mul_comm, ← Nat.pow_succ, show (M - 2).succ = M - 1 by omega]
 exact q0e h.prime hd
theorem FP.inv0 {M : Nat} (h : FP M) : 0 ^ (M - 2) % M = 0 := by
 have hb := h.big
 rw [Nat.zero_pow ap16, Nat.zero_mod]
theorem C0N {M a w : Nat} (h : IsP M) (ha : a < M) (hw : w < M) (hs : w * w % M = a * a % M) : w = a ∨ w = (M - a) % M := by
 have key : ∀ a w, a < M → w < M → a ≤ w → w * w % M = a * a % M → w = a ∨ w = (M - a) % M := by
  intro a w ha hw hle hs
  have hd : M ∣ (w - a) * (w + a) := by
   have h1 : M ∣ w * w - a * a := Nat.dvd_of_mod_eq_zero (Nat.sub_mod_eq_zero_of_mod_eq hs)
   rwa [Nat.mul_self_sub_mul_self_eq, Nat.mul_comm] at h1
  rcases h.euclid hd with h1 | h1
  ·left
   rcases Nat.eq_zero_or_pos (w - a) with h2 | h2
   ·omega
   ·have := Nat.le_of_dvd h2 h1; omega
  ·obtain ⟨c, hc⟩ := h1
   have h1 := h.1
   have hc2 : c = 0 ∨ c = 1 := by
    rcases Nat.lt_or_ge c 2 with h2 | h2
    ·omega
    ·have : M * 2 ≤ M * c := Nat.mul_le_mul_left _ h2
     omega
   rcases hc2 with rfl | rfl
   ·left; omega
   ·rcases Nat.eq_zero_or_pos a with h3 | h3
    ·subst h3; omega
    ·right; rw [Nat.mod_eq_of_lt ap16]; omega
 rcases Nat.le_total a w with h1 | h1
 ·exact key a w ha hw h1 hs
 ·rcases key w a hw ha h1 hs.symm with h2 | h2
  ·exact Or.inl h2.symm
  ·rcases Nat.eq_zero_or_pos w with h3 | h3
   ·subst h3; rw [Nat.sub_zero, Nat.mod_self] at h2; exact Or.inl h2.symm
   ·rw [Nat.mod_eq_of_lt ap16] at h2
    right
    rw [Nat.mod_eq_of_lt ap16]; omega
theorem t0R {M a : Nat} (h : FP M) (h4 : M % 4 = 3) (_ : a < M) : b0G M (a * a % M) = true := by
 unfold b0G rtN
 rw [beq_iff_eq]
 have hb := h.big
 generalize hk : M / 4 + 1 = k
 have h2 : 4 * k = M + 1 := by omega
 rw [Nat.mul_mod ((a * a % M) ^ k), ← Nat.pow_mod, ← Nat.mul_mod, ← Nat.pow_two a, ← Nat.pow_mul, ← Nat.pow_add, show 2 * k + 2 * k = M + 1 by omega, Nat.mod_mod]
 rw [Nat.pow_succ, Nat.mul_mod, o0z h.prime, ← Nat.mul_mod, Nat.pow_two]
theorem n0l {M x : Nat} (h : FP M) : rtV M x % M % 2 = 0 := by
 unfold rtV
 have hb := h.big
 have ho := h.odd
 have hl : rtN M x % M < M := Nat.mod_lt _ ap16
 generalize hr : rtN M x % M = r at *
 split
 ·rename_i h1
  rw [Nat.mod_eq_of_lt (show M - r < M by omega)]; omega
 ·rw [hr]; omega
theorem o0F {M x : Nat} (h : FP M) (hx : x < M) (hr : b0G M x = true) : (rtV M x % M) * (rtV M x % M) % M = x := by
 unfold b0G at hr
 rw [beq_iff_eq, Nat.mul_mod, Nat.mod_eq_of_lt hx] at hr
 unfold rtV
 have hb := h.big
 have hl : rtN M x % M < M := Nat.mod_lt _ ap16
 generalize hq : rtN M x % M = r at *
 split
 ·rename_i h1
  rw [Nat.mod_eq_of_lt (show M - r < M by omega)]
  have e : (M - r) * (M - r) + M * (2 * r) = r * r + M * M := by
   obtain ⟨d, rfl⟩ : ∃ d, M = r + d := ⟨M - r, by omega⟩
   rw [Nat.add_sub_cancel_left]
   clear hb hl hq hr hx h
   grind
  have e2 : ((M - r) * (M - r) + M * (2 * r)) % M = (r * r + M * M) % M := by rw [e]
  rw [Nat.add_mul_mod_self_left, Nat.add_mul_mod_self_left, hr] at e2
  exact e2
 ·rw [hq, hr]
theorem E0b : FP pP := ⟨by rw [show pP = 115792089237316195423570985008687907853269984665640564039457584007908834671663 by decide]; exact y0O, by decide, by decide⟩
theorem E0H : FP pQ := ⟨by rw [show pQ = 115792089237316195423570985008687907852837564279074904382605163141518161494337 by decide]; exact C0A, by decide, by decide⟩
end Mvq
namespace Mvq
open Mvp
def a0H : Pt → List UInt8
 | .O => List.replicate 33 0
 | .A x y => UInt8.ofNat (2 + y.val % 2) :: a0P x.val
theorem c0h (p : Pt) : (a0H p).length = 33 := by
 cases p
 ·simp [a0H]
 ·simp [a0H, a0X]
def tlN (l : List UInt8) : Nat := beN (l.drop 1)
def d0A (n : Nat) : Nat := n * n * n + 7
def b0J (l : List UInt8) : Bool :=
 decide (l.length = 33) && (if l.getD 0 0 = 0 then tlN l == 0 else decide (l.getD 0 0 = 2 ∨ l.getD 0 0 = 3) && (decide (tlN l < fP) && b0G fP (d0A (tlN l))))
def b0q (l : List UInt8) : Pt :=
 if l.getD 0 0 = 0 then .O else .A (kc (tlN l)) (if l.getD 0 0 = 3 then - kc (rtV fP (d0A (tlN l))) else kc (rtV fP (d0A (tlN l))))
theorem x0b {a x : Nat} (h : (a * a % fP == x % fP) = true) : kc a * kc a = kc x := by
 rw [C0M] at h
 rw [← a0K]; simpa using h
theorem y0T {x : Nat} (h : b0G fP x = true) : kc (rtV fP x) * kc (rtV fP x) = kc x := by
 unfold b0G at h
 have h1 := x0b h
 unfold rtV
 split
 ·rw [t0N, ← h1]; grind -lia -linarith
 ·exact h1
theorem o0G (n : Nat) : kc (d0A n) = kc n * kc n * kc n + 7 := by
 unfold d0A
 rw [h0i, a0K, a0K, show kc 7 = 7 by decide]
theorem C0O {n : Nat} (h : b0G fP (d0A n) = true) : onC (.A (kc n) (kc (rtV fP (d0A n)))) := by
 show kc (rtV fP (d0A n)) * kc (rtV fP (d0A n)) = kc n * kc n * kc n + 7
 rw [y0T h, o0G]
theorem l0q {l : List UInt8} (h : b0J l = true) : onC (b0q l) := by
 unfold b0J at h
 unfold b0q
 by_cases h0 : l.getD 0 0 = 0
 ·rw [if_pos h0]; trivial
 ·rw [if_neg h0]
  simp only [Bool.and_eq_true, decide_eq_true_eq, if_neg h0] at h
  obtain ⟨-, -, -, h4⟩ := h
  have := C0O h4
  by_cases h3 : l.getD 0 0 = 3
  ·rw [if_pos h3]; exact c0i this
  ·rw [if_neg h3]; exact this
theorem f0x (n : Nat) : (kc n).val = n % fP := by simp [kc, Fin.ofNat]
theorem x0c (n : Nat) (h : n < fP) : beN (a0P n) = n := by
 have h2 : fP < 256 ^ 32 := by decide
 exact p0N n (Nat.lt_trans h h2)
theorem j0a (y : K) (h : y ≠ 0) : (-y).val % 2 = (1 + y.val) % 2 := by
 have h0 : y.val ≠ 0 := fun e => h (Fin.ext e)
 have h1 : (-y).val = fP - y.val := by
  rw [Fin.val_neg]
  have hne : ¬ y = 0 := h
  simp [hne]
 have h2 : fP % 2 = 1 := by decide
 have h3 := y.isLt
 omega
theorem t0S {a b : K} (h : a * a = b * b) : a = b ∨ a = -b := by
 have : (a - b) * (a + b) = 0 := by grind -lia -linarith
 rcases a0z this with e | e
 ·left; grind -lia -linarith
 ·right; grind -lia -linarith
theorem f0k {p : Pt} (h : onC p) : b0J (a0H p) = true ∧ b0q (a0H p) = p := by
 cases p with
 | O =>
  have : (a0H .O) = List.replicate 33 0 := rfl
  rw [this]
  constructor
  ·decide
  ·unfold b0q; rw [if_pos ap15]
 | A x y =>
  have hc : y * y = x * x * x + 7 := h
  have hy := v0J hc
  have e0 : (a0H (.A x y)).getD 0 0 = UInt8.ofNat (2 + y.val % 2) := rfl
  have e1 : tlN (a0H (.A x y)) = x.val := by
   show beN (a0P x.val) = x.val
   exact x0c _ x.isLt
  have hl := c0h (.A x y)
  have hk : kc (d0A x.val) = y * y := by rw [o0G, k0f, hc]
  have hr : b0G fP (d0A x.val) = true := by
   have hh := t0R (M := fP) (a := y.val) (by have := E0b; rwa [t0M] at this) ap15 y.isLt
   have e : kc (d0A x.val) = kc (y.val * y.val % fP) := by rw [e0t, a0K, k0f, hk]
   have e2 : d0A x.val % fP = y.val * y.val % fP % fP := by
    have := C0M (d0A x.val) (y.val * y.val % fP)
    rw [e] at this
    simpa using this
   unfold b0G rtN at *
   rw [Nat.mul_mod, Nat.pow_mod, e2, ← Nat.pow_mod, ← Nat.mul_mod]
   simpa using hh
  have hev : (kc (rtV fP (d0A x.val))).val % 2 = 0 := by
   rw [f0x]
   exact n0l (by have := E0b; rwa [t0M] at this)
  have hv := y0T hr
  rw [hk] at hv
  generalize hz : kc (rtV fP (d0A x.val)) = z at *
  unfold b0J b0q
  rw [hl, e1, e0, hr, hz]
  have hx := x.isLt
  have hcase : y.val % 2 = 0 ∨ y.val % 2 = 1 := by omega
  have hzy : z = (if y.val % 2 = 0 then y else -y) := by
   rcases t0S hv with e | e
   ·subst e; rw [if_pos hev]
   ·have hp := j0a y hy
    rw [← e] at hp
    rw [if_neg ap16]; exact e
  have hlt : decide (x.val < fP) = true := decide_eq_true hx
  rcases hcase with e | e
  ·have hb : UInt8.ofNat (2 + y.val % 2) = 2 := by rw [e]; rfl
   rw [if_pos e] at hzy
   rw [hb, hzy, hlt]
   refine ⟨?_, ?_⟩
   ·rw [if_neg ap15]; decide
   ·rw [if_neg ap15, if_neg ap15, k0f]
  ·have hb : UInt8.ofNat (2 + y.val % 2) = 3 := by rw [e]; rfl
   rw [if_neg ap16] at hzy
   rw [hb, hzy, hlt]
   refine ⟨?_, ?_⟩
   ·rw [if_neg ap15]; decide
   ·have hn : - -y = y := by grind -lia -linarith
    rw [if_neg ap15, if_pos rfl, k0f, hn]
end Mvq
namespace Go.Proofs.YtemcankmggmgoaaGreat
open Go.RowKit Go.Mv Mvp Mvq
def gXn : Nat := 0x79BE667EF9DCBBAC55A06295CE870B07029BFCDB2DCE28D959F2815B16F81798
def gYn : Nat := 0x483ADA7726A3C4655DA4FBFC0E1108A8FD17B448A68554199C47D08FFB10D4B8
structure PT where
 x : Nat
 y : Nat
 z : Nat
 on : onC (jN x y z)
def PT.pt (s : PT) : Pt := jN s.x s.y s.z
def PT.L (s : PT) : List Value := ptL mP s.x s.y s.z
theorem PT.len (s : PT) : s.L.length = 12 := e0L _ _ _ _
theorem PT.one (s : PT) : ∀ v ∈ s.L, v.oneCell' = true := b0i _ _ _
theorem PT.onP (s : PT) : onC s.pt := s.on
def Cv (w : World) (gc : Nat) : Prop := ∃ gp, Has w gc (e0b mP gp gXn gYn) 125 ∧ Has w gp (mdL mP) 187
theorem Cv.keep {w w' : World} {gc : Nat} (h : Cv w gc) (hf : Fr Nob w w') : Cv w' gc := by
 obtain ⟨gp, h1, h2⟩ := h
 exact ⟨gp, h1.keep hf id, h2.keep hf id⟩
theorem o0H (s : PT) : ∃ t : PT, t.pt = a0T s.pt s.pt ∧ ∀ gc wx, Cv wx gc → Calls Tryz.prog 158 #[.pointer (some ⟨gc, 0, none⟩), (.agg s.L.toArray)] wx fun e w' => e = .returned (.agg t.L.toArray) ∧ Fr Nob wx w' := by
 obtain ⟨X, Y, Z, h1, h2⟩ := n0j s.x s.y s.z s.on
 refine ⟨⟨X, Y, Z, by rw [h1]; exact c0r s.on s.on⟩, h1, ?_⟩
 rintro gc wx ⟨gp, a, b⟩
 exact h2 gc gp gXn gYn wx a b
theorem o0I (s t : PT) : ∃ r : PT, r.pt = a0T s.pt t.pt ∧ ∀ gc wx, Cv wx gc → Calls Tryz.prog 159 #[.pointer (some ⟨gc, 0, none⟩), (.agg s.L.toArray), (.agg t.L.toArray)] wx fun e w' => e = .returned (.agg r.L.toArray) ∧ Fr Nob wx w' := by
 obtain ⟨X, Y, Z, h1, h2⟩ := A0y s.x s.y s.z t.x t.y t.z s.on t.on
 refine ⟨⟨X, Y, Z, by rw [h1]; exact c0r s.on t.on⟩, h1, ?_⟩
 rintro gc wx ⟨gp, a, b⟩
 exact h2 gc gp gXn gYn wx a b
noncomputable def l0r (s : PT) : PT := Classical.choose (o0H s)
noncomputable def l0V (s t : PT) : PT := Classical.choose (o0I s t)
theorem l0s (s : PT) : (l0r s).pt = a0T s.pt s.pt := (Classical.choose_spec (o0H s)).1
theorem t0T (s t : PT) : (l0V s t).pt = a0T s.pt t.pt := (Classical.choose_spec (o0I s t)).1
theorem x0d (s : PT) (gc : Nat) (w : World) (h : Cv w gc) : Calls Tryz.prog 158 #[.pointer (some ⟨gc, 0, none⟩), (.agg s.L.toArray)] w fun e w' => e = .returned (.agg (l0r s).L.toArray) ∧ Fr Nob w w' :=
 (Classical.choose_spec (o0H s)).2 gc w h
theorem y0U (s t : PT) (gc : Nat) (w : World) (h : Cv w gc) : Calls Tryz.prog 159 #[.pointer (some ⟨gc, 0, none⟩), (.agg s.L.toArray), (.agg t.L.toArray)] w fun e w' => e = .returned (.agg (l0V s t).L.toArray) ∧ Fr Nob w w' :=
 (Classical.choose_spec (o0I s t)).2 gc w h
theorem t0U : kc 1 = 1 := by decide
def noT : PT := ⟨1, 1, 0, by unfold jN; rw [A0s ap15]; trivial⟩
theorem t0V : noT.pt = .O := by show jN 1 1 0 = .O; unfold jN; rw [A0s ap15]
theorem n0m (gc : Nat) (w : World) (h : Cv w gc) : Calls Tryz.prog 157 #[.pointer (some ⟨gc, 0, none⟩)] w fun e w' => e = .returned (.agg noT.L.toArray) ∧ Fr Nob w w' := by
 obtain ⟨gp, a, b⟩ := h
 exact i0Z mP gc gp gXn gYn w b0Z a b
theorem y0V (x y : Nat) : jN x y 1 = .A (kc x) (kc y) := by
 unfold jN
 refine A0t ap15 ?_ ?_
 ·rw [t0U]; grind -lia -linarith
 ·rw [t0U]; grind -lia -linarith
def o0J (x y : Nat) (h : onC (.A (kc x) (kc y))) : PT := ⟨x, y, 1, by rw [y0V]; exact h⟩
theorem l0t (x y : Nat) (h : onC (.A (kc x) (kc y))) : (o0J x y h).pt = .A (kc x) (kc y) := y0V x y
theorem l0u : onC (.A (kc gXn) (kc gYn)) := by
 show kc gYn * kc gYn = kc gXn * kc gXn * kc gXn + 7
 decide
def j0b : PT := o0J gXn gYn l0u
theorem q0i : j0b.pt = .A (kc gXn) (kc gYn) := l0t _ _ _
def PT.isO (s : PT) : Bool := s.z % mP.M == 0
theorem PT.isO_t {s : PT} (h : s.isO = true) : s.pt = .O := by
 have hz : kc s.z = 0 := by simpa using s0i _ c0S s.z _ h
 exact A0s hz
theorem PT.isO_f {s : PT} (h : s.isO = false) : kc s.z ≠ 0 := by simpa using s0i _ c0S s.z _ h
end Go.Proofs.YtemcankmggmgoaaGreat
namespace Go.Mv
open Go.RowKit
section
variable {P : Program} {w w0 : World} {ops : Array Oper} {rest : List Oper} {o : Oper} {a : Act} {Q : Exit → Act → World → Prop} {S : Nat → Prop} {bl : List (Nat × List Value × TypeId)} {K : Act → World → Prop}
theorem g0G (hst : St S w0 w bl) (i : Nat) {g : Nat} {L : List Value} {T : TypeId} (hb : bl[i]? = some (g, L, T)) {ty : TypeId} {x y : Operand} (hgd : o.guard = none) (ho : o.op = .store ty x y) {p : Nat} (hx : a.eval x = .pointer (some ⟨g, p, none⟩)) {cs : List Value} (hy : a.eval y = .agg cs.toArray)
  (L' : List Value) (hL : splice L p cs = L') (hn : p + cs.length ≤ L.length) (hi : (P.info? ty).map (·.size) = some cs.length) (h1 : ∀ v ∈ cs, v.oneCell' = true)
  (h : ∀ w', St S w0 w' (bl.set i (g, L', T)) → wpList P ops Q rest (a.put o.dst undef) w') : wpList P ops Q (o :: rest) a w :=
 c0G hgd ho hx hy (hst.at i hb) hn hi h1 fun w' hg hf _ => h w' (hst.put i hb hf (by rwa [hL] at hg))
theorem j0c (hst : St S w0 w bl) (i : Nat) {g : Nat} {L : List Value} {T : TypeId} (hb : bl[i]? = some (g, L, T)) {ty : TypeId} {x y : Operand} (ho : o.op = .store ty x y) {p : Nat} (hx : a.eval x = .pointer (some ⟨g, p, none⟩)) {cs : List Value} (hy : a.eval y = .agg cs.toArray)
  (L' : List Value) (hL : splice L p cs = L') (hn : p + cs.length ≤ L.length) (hi : (P.info? ty).map (·.size) = some cs.length) (h1 : ∀ v ∈ cs, v.oneCell' = true)
  (h : ∀ w', St S w0 w' (bl.set i (g, L', T)) → K (a.put o.dst undef) w') : o.wp P a w K Q := by
 obtain ⟨k1, k2, _⟩ := Has.setCells cs p L w (hst.at i hb) hn
 rw [hL] at k1
 exact wp_store_mid ty x y ho g p cs.toArray hx hy (by simpa using (hst.at i hb).there p cs.length hn) (by simpa using hi) (all_oneCell_toArray h1) (by simpa using h _ (hst.put i hb k2 k1))
theorem k0j (A B C : List Value) (n : Nat) (hA : A.length = n) (hC : C.length = B.length) : splice (A ++ B) n C = A ++ C := by
 unfold splice
 subst hA
 rw [List.take_left, List.drop_append, List.drop_of_length_le ap16, List.drop_of_length_le ap16]
 simp
theorem k0k (A B D C : List Value) (n : Nat) (hA : A.length = n) (hC : C.length = B.length) : splice (A ++ (B ++ D)) n C = A ++ (C ++ D) := by
 unfold splice
 subst hA
 rw [List.take_left, List.drop_append, List.drop_of_length_le ap16, List.nil_append, show A.length + C.length - A.length = B.length by omega, List.drop_left]
end
end Go.Mv
namespace Go.Proofs.YtemcankmggmgoaaGreat
open Go.RowKit Go.Mv Mvp Mvq
theorem OfI (m : Md) (hk : KindOf 0 m) (w : World) : Calls Tryz.prog 146 #[.int .i64 0] w fun e w' => ∃ g, e = .returned (.tuple #[.pointer (some ⟨g, 0, none⟩), .bool true]) ∧ w.heap.size ≤ g ∧ Has w' g (mdL m) 187 ∧ Fr Nob w w' := by
 cases hk
 go_enter Tryz.func146, Tryz.ntmps146
 go_wp2
 go_ret2
 exact ⟨_, rfl, Nat.le_refl _, by rw [← p0W]; exact Has.new w _ _, (Fr.refl Nob w).alloc _⟩
theorem x0e : Tryz.prog.built 111 [(0, .int .u64 6481385041966929816), (1, .int .u64 188021827762530521), (2, .int .u64 6170039885052185351), (3, .int .u64 8772561819708210092)] = some (cw 4 gXn).toArray := by kernel_rfl
theorem x0f : Tryz.prog.built 111 [(0, .int .u64 11261198710074299576), (1, .int .u64 18237243440184513561), (2, .int .u64 6747795201694173352), (3, .int .u64 5204712524664259685)] = some (cw 4 gYn).toArray := by kernel_rfl
theorem E0c : gXn < B64 ^ 4 := by decide
theorem E0d : gYn < B64 ^ 4 := by decide
theorem t0W (p : Option Addr) (a : Nat) : Tryz.prog.built 125 [(0, .pointer p), (1, i4 a)] = some ([Value.pointer p] ++ (cw 4 a ++ (cw 4 0 ++ (cw 4 0 ++ cw 4 0)))).toArray := by kernel_rfl
theorem r0H (p : Value) (a b c d : Nat) : splice ([p] ++ (cw 4 a ++ (cw 4 0 ++ (cw 4 0 ++ cw 4 0)))) 5 (cw 4 b ++ (cw 4 c ++ cw 4 d)) = [p] ++ (cw 4 a ++ (cw 4 b ++ (cw 4 c ++ cw 4 d))) := by
 have h := k0j ([p] ++ cw 4 a) (cw 4 0 ++ (cw 4 0 ++ cw 4 0)) (cw 4 b ++ (cw 4 c ++ cw 4 d)) 5 (by rw [List.length_append, a0i]; rfl) ap5
 rw [List.append_assoc, List.append_assoc] at h
 exact h
theorem A0z (p : Value) (a b c d : Nat) : ([p] ++ (cw 4 a ++ (cw 4 b ++ (cw 4 c ++ cw 4 d)))).length = 17 := by simp only [List.length_append, a0i]; rfl
attribute [local irreducible] a0C lw mix cw b0k b0y b0j a0M a0n beN b0F a0P b0C a0J a0R elN mdL a0S rtN rtV b0G gXn gYn
theorem x0g (m : Md) (hk : KindOf 0 m) (w : World) :
  Calls Tryz.prog 86 #[] w fun e w' => ∃ gc, e = .returned (.pointer (some ⟨gc, 0, none⟩)) ∧ w.heap.size ≤ gc ∧ (∃ gp, Has w' gc (e0b m gp gXn gYn) 125 ∧ Has w' gp (mdL m) 187) ∧ Fr Nob w w' := by
 have HK := qH hk
 have HOK := qH hk.ok
 have HGX := qH E0c
 have HGY := qH E0d
 clear hk
 have st0 := St.start Nob w
 go_enter Tryz.func86, Tryz.ntmps86
 go_wp2_with fail
 refine (OfI m HK.out _).mono ?_
 rintro e' w1 ⟨gp, rfl, hle, hm, hf1⟩
 have st1 : St Nob w w1 [(gp, mdL m, 187)] := st0.new hf1 hm hle
 clear st0 hf1 hm hle
 go_wp2_with fail
 refine (k0c m gp _ HOK.out (st1.at 0 rfl) 7 ap15).mono ?_
 rintro e' w2 ⟨rfl, hf2⟩
 have st2 := st1.keep hf2
 clear st1 hf2
 go_wp2_with (with_reducible refine wSk 13 ?_)
 refine a0Y rfl rfl _ (t0W _ _) ?_
 go_wp2_with (with_reducible refine wSk 14 ?_)
 refine a0l st2 rfl rfl rfl ([Value.pointer (some ⟨gp, 0, none⟩)] ++ (cw 4 (elN m 7) ++ (cw 4 0 ++ (cw 4 0 ++ cw 4 0)))) rfl ?_
 intro gc w3 st3
 clear st2
 go_wp2_with (with_reducible refine wSk 16 ?_)
 refine a0Y rfl rfl _ x0e ?_
 go_wp2_with fail
 refine (d0k m gp _ HOK.out (st3.at 0 rfl) gXn HGX.out).mono ?_
 rintro e' w4 ⟨rfl, hf4⟩
 have st4 := st3.keep hf4
 clear st3 hf4
 go_wp2_with (with_reducible refine wSk 19 ?_)
 refine a0Y rfl rfl _ x0f ?_
 go_wp2_with fail
 refine (d0k m gp _ HOK.out (st4.at 0 rfl) gYn HGY.out).mono ?_
 rintro e' w5 ⟨rfl, hf5⟩
 have st5 := st4.keep hf5
 clear st4 hf5
 go_wp2_with (with_reducible refine wSk 4 ?_)
 refine a0a st5 rfl rfl (z := zAd) ap14 (cw 4 0) ap12 ?_
 intro g4 w6 st6
 clear st5
 go_wp2_with (with_reducible refine wSk 5 ?_)
 refine a0a st6 rfl rfl (z := zAd) ap14 (cw 4 0) ap12 ?_
 intro g5 w7 st7
 clear st6
 go_wp2_with (with_reducible refine wSn ?_)
 refine a0b st7 2 rfl rfl rfl rfl rfl ap5 ap4 (a0f _ _) ?_
 intro w8 st8
 clear st7
 go_wp2_with (with_reducible refine wSn ?_)
 refine a0b st8 3 rfl rfl rfl rfl rfl ap5 ap4 (a0f _ _) ?_
 intro w9 st9
 clear st8
 go_wp2_with fail
 refine wp_region_noPanic ?_
 refine a0o (fun wx => St Nob w wx [(gp, mdL m, 187), (gc, [Value.pointer (some ⟨gp, 0, none⟩)] ++ (cw 4 (elN m 7) ++ (cw 4 0 ++ (cw 4 0 ++ cw 4 0))), 125), (g4, cw 4 (elN m gXn), 66), (g5, cw 4 (elN m gYn), 66)]) 11 (.w 0 (.t 1 (.t 2 (.w 3 (.w 4 (.w 5 (.t 6 (.r 7 (.w 8 (.w 9 (.w 10 (.m 11 .nil)))))))))))) ap14 ap14 st9.drew (fun _ _ _ _ _ h => h) ?_
 have hd9 := st9.drew
 clear st9
 refine a0j rfl rfl apW ?_
 try simp only [clL]
 refine a0s rfl rfl rfl rfl (cw 4 (elN m gXn)) (fun wx hS => St.rangeL hS 2 rfl 0 _ dZl) Tryz.underlying66 rfl ap4 ?_
 try simp only [clL]
 refine a0s rfl rfl rfl rfl (cw 4 (elN m gYn)) (fun wx hS => St.rangeL hS 3 rfl 0 _ dZl) Tryz.underlying66 rfl ap4 ?_
 try simp only [clL]
 refine a0j rfl rfl apW ?_
 try simp only [clL]
 refine a0j rfl rfl apW ?_
 try simp only [clL]
 refine a0j rfl rfl apW ?_
 try simp only [clL]
 refine d0G (v := ?_) rfl rfl (fun wx hS => ?_) ?_
 rotate_left 1
 ·(have hc := (St.at hS 1 rfl).cell (i := 0) rfl; clear hS; go_simp; with_reducible rfl)
 try simp only [clL]
 refine a0w rfl rfl ?_
 go_simp
 refine (e0K m gp _ HOK.out (hd9.at 0 rfl)).mono ?_
 rintro e' w10 ⟨rfl, hf10⟩
 have st10 := hd9.keep hf10
 clear hf10
 clear hd9
 refine ⟨st10, ?_⟩
 try simp only [clL]
 refine a0j rfl rfl (b0A rfl _ (f0w _ _ _)) ?_
 try simp only [clL]
 refine a0j rfl rfl apW ?_
 try simp only [clL]
 refine a0j rfl rfl apW ?_
 try simp only [clL]
 refine a0q rfl rfl ?_
 refine j0c st10 1 rfl rfl rfl rfl _ (r0H _ _ _ _ _) (by rw [A0z]; simp only [List.length_append, a0i]; decide) ap4 (b0i _ _ _) ?_
 intro w11 st11
 have st11 : St Nob w w11 [(gp, mdL m, 187), (gc, [Value.pointer (some ⟨gp, 0, none⟩)] ++ (cw 4 (elN m 7) ++ (cw 4 (elN m gXn) ++ (cw 4 (elN m gYn) ++ cw 4 (elN m 1)))), 125), (g4, cw 4 (elN m gXn), 66), (g5, cw 4 (elN m gYn), 66)] := st11
 clear st10
 try simp only [Act.put]
 refine a0g ?_
 refine NoPanic.normal ?_
 have hown := st11.own _ (List.mem_of_getElem? (i := 1) rfl)
 have hc := st11.at 1 rfl
 have hm := st11.at 0 rfl
 have hfr := st11.fr
 clear st11
 have hge := hown.resolve_right (fun h => h)
 clear hown
 have HGE := qH hge
 clear hge
 go_wp2_with fail
 go_ret
 exact ⟨gc, rfl, HGE.out, ⟨gp, hc, hm⟩, hfr⟩
theorem d0q (w : World) : Calls Tryz.prog 86 #[] w fun e w' => ∃ gc, e = .returned (.pointer (some ⟨gc, 0, none⟩)) ∧ w.heap.size ≤ gc ∧ Cv w' gc ∧ Fr Nob w w' := x0g mP .zero w
end Go.Proofs.YtemcankmggmgoaaGreat
namespace Go.Mv
open Go.RowKit
theorem d0w (f : Nat → List Value) (k : Nat) (hl : ∀ i, (f i).length = k) : ∀ n, ((List.range n).flatMap f).length = k * n
 | 0 => by simp
 | n + 1 => by rw [List.range_succ, List.flatMap_append, List.length_append, d0w f k hl n]; simp [hl, Nat.mul_succ]
theorem f0y (f : Nat → List Value) (n i : Nat) (h : i < n) : (List.range n).flatMap f = (List.range i).flatMap f ++ (f i ++ (List.range' (i + 1) (n - i - 1)).flatMap f) := by
 have e : List.range n = List.range i ++ i :: List.range' (i + 1) (n - i - 1) := by
  rw [List.range_eq_range', List.range_eq_range']
  have h1 : n = i + (n - i - 1 + 1) := by omega
  conv => lhs; rw [h1]
  rw [← List.range'_append_1, List.range'_succ]
  simp
 rw [e]; simp
theorem q0j (f : Nat → List Value) (k : Nat) (hl : ∀ i, (f i).length = k) (n i : Nat) (h : i < n) : (((List.range n).flatMap f).drop (i * k)).take (f i).length = f i := by
 rw [f0y f n i h, List.drop_append_of_le_length (by rw [d0w f k hl, Nat.mul_comm]; omega), List.drop_of_length_le (by rw [d0w f k hl, Nat.mul_comm]; omega), List.nil_append, List.take_left]
theorem q0k (f f' : Nat → List Value) (k : Nat) (hl : ∀ i, (f i).length = k) (n i : Nat) (h : i < n) (hi : (f' i).length = k) (hv : ∀ j, j ≠ i → f' j = f j) : splice ((List.range n).flatMap f) (i * k) (f' i) = (List.range n).flatMap f' := by
 rw [f0y f n i h, f0y f' n i h]
 have e1 : (List.range i).flatMap f' = (List.range i).flatMap f := by
  rw [List.flatMap_def, List.flatMap_def]
  congr 1
  exact List.map_congr_left fun j hj => hv j (by have := List.mem_range.1 hj; omega)
 have e2 : (List.range' (i + 1) (n - i - 1)).flatMap f' = (List.range' (i + 1) (n - i - 1)).flatMap f := by
  rw [List.flatMap_def, List.flatMap_def]
  congr 1
  exact List.map_congr_left fun j hj => hv j (by have := List.mem_range'_1.1 hj; omega)
 rw [e1, e2]
 exact k0k _ _ _ _ _ (by rw [d0w f k hl, Nat.mul_comm]) (by rw [hi, hl])
end Go.Mv
namespace Go.Proofs.YtemcankmggmgoaaGreat
open Go.RowKit Go.Mv Mvp Mvq
noncomputable def f0D (s : PT) : Nat → PT
 | 0 => noT
 | i + 1 => l0V (f0D s i) s
theorem t0X (s : PT) : ∀ i, (f0D s i).pt = a0E i s.pt
 | 0 => t0V
 | i + 1 => by
  show (l0V (f0D s i) s).pt = a0T (a0E i s.pt) s.pt
  rw [t0T, t0X s i]
theorem C0P (s : PT) (k gc : Nat) (w : World) (h : Cv w gc) : Calls Tryz.prog 159 #[.pointer (some ⟨gc, 0, none⟩), (.agg (f0D s k).L.toArray), (.agg s.L.toArray)] w fun e w' => e = .returned (.agg (f0D s (k + 1)).L.toArray) ∧ Fr Nob w w' := y0U (f0D s k) s gc w h
noncomputable def tbR (s : PT) (j i : Nat) : List Value := if i < j then (f0D s i).L else cw 12 0
noncomputable def tbL (s : PT) (j : Nat) : List Value := (List.range 16).flatMap (tbR s j)
theorem l0v (s : PT) (j i : Nat) : (tbR s j i).length = 12 := by
 unfold tbR; split
 ·exact PT.len _
 ·exact a0i _ _
theorem b0Y (s : PT) (j : Nat) : (tbL s j).length = 192 := d0w _ 12 (l0v s j) 16
theorem t0Y (s : PT) (j : Nat) : ∀ v ∈ tbL s j, v.oneCell' = true := by
 intro v hv
 unfold tbL at hv
 obtain ⟨i, -, hi⟩ := List.mem_flatMap.1 hv
 unfold tbR at hi
 split at hi
 ·exact PT.one _ v hi
 ·exact a0f _ _ v hi
theorem x0h (s : PT) : (Value.agg (List.replicate 192 (Value.int .u64 0)).toArray).cells.toList = tbL s 0 := by
 unfold tbL tbR
 simp only [Nat.not_lt_zero, if_false, g0Y]
 rfl
theorem t0Z (s : PT) (j : Nat) (h : j < 16) : splice (tbL s j) (j * 12) (f0D s j).L = tbL s (j + 1) := by
 have h0 := q0k (tbR s j) (tbR s (j + 1)) 12 (l0v s j) 16 j h (l0v s _ _) (fun i hi => by unfold tbR; by_cases hc : i < j; rw [if_pos hc, if_pos ap16]; rw [if_neg hc, if_neg ap16])
 have e : tbR s (j + 1) j = (f0D s j).L := by unfold tbR; rw [if_pos ap16]
 rw [e] at h0
 exact h0
theorem x0i (s : PT) : splice (tbL s 0) 0 noT.L = tbL s (0 + 1) := t0Z s 0 ap16
theorem u0a (s : PT) (j i : Nat) (h : i < j) (hj : j ≤ 16) : ((tbL s j).drop (i * 12)).take (f0D s i).L.length = (f0D s i).L := by
 have h0 := q0j (tbR s j) 12 (l0v s j) 16 i ap16
 have e : tbR s j i = (f0D s i).L := by unfold tbR; rw [if_pos h]
 rw [e] at h0
 exact h0
theorem x0j : (Tryz.prog.info? 143).map (·.zero) = some (some (.agg (List.replicate 192 (.int .u64 0)).toArray)) := by kernel_rfl
attribute [local irreducible] a0C lw mix cw b0k b0y b0j a0M a0n beN b0F a0P b0C a0J a0R elN mdL a0S rtN rtV b0G gXn gYn PT.L l0V l0r f0D tbL
theorem _root_.ap6 {p : Prop} (h : p := by first | (rw [a0i]; kernel_rfl) | (simp only [PT.len]; kernel_rfl)) : p := h
theorem j0d (s : PT) (gc : Nat) (w : World) (h : Cv w gc) :
  Calls Tryz.prog 99 #[.pointer (some ⟨gc, 0, none⟩), .agg s.L.toArray] w fun e w' => e = .returned (.agg (tbL s 16).toArray) ∧ Fr Nob w w' := by
 have HCV := qH h
 clear h
 have st0 := St.start Nob w
 go_enter Tryz.func99, Tryz.ntmps99
 go_wp2_with (with_reducible refine wSk 3 ?_)
 refine a0l st0 rfl rfl rfl (s.L) rfl ?_
 intro g3 w1 st1
 clear st0
 go_wp2_with (with_reducible refine wSk 4 ?_)
 refine a0a st1 rfl rfl x0j (tbL s 0) (x0h s) ?_
 intro g4 w2 st2
 clear st1
 go_wp2_with fail
 refine (n0m gc _ (HCV.out.keep st2.fr)).mono ?_
 rintro e' w3 ⟨rfl, hf3⟩
 have st3 := st2.keep hf3
 clear st2 hf3
 go_wp2_with (with_reducible refine wSn ?_)
 refine g0G st3 1 rfl rfl rfl rfl rfl (tbL s (0 + 1)) (x0i s) (by rw [b0Y, PT.len]; omega) ap6 (PT.one _) ?_
 intro w4 st4
 have st4 : St Nob w w4 [(g3, s.L, 117), (g4, tbL s (0 + 1), 143)] := st4
 clear st3
 go_wp2
 go_loopw [5] (fun i wr => ∃ k : Nat, k ≤ 15 ∧ i = .int .i64 ((k : Int) + 1) ∧ St Nob w wr [(g3, s.L, 117), (g4, tbL s (k + 1), 143)]) (fun i _ => (16 - intOf i).toNat)
 case atStart => exact ⟨0, by omega, rfl, st4⟩
 case round =>
  obtain ⟨k, hk, rfl, st⟩ := hrel
  clear st4
  rcases Nat.lt_or_ge k 15 with hk2 | hk2
  ·have hc : ((k : Int) + 1 < 16) := by omega
   have hlt : (k : Int) + 1 < 9223372036854775808 := by omega
   have hl2 : (k : Int) < 9223372036854775808 := by omega
   have hl3 : (k : Int) < 16 := by omega
   have hl4 : IntKind.i64.wrap (k : Int) = (k : Int) := IntWalk.i64_in _ ap16
   have hl5 : (0 : Int) ≤ (k : Int) := by omega
   have hl6 : (0 : Int) ≤ (k : Int) + 1 := by omega
   go_wp2_with fail
   refine wp_region_noPanic ?_
   refine a0o (fun wx => St Nob w wx [(g3, s.L, 117), (g4, tbL s (k + 1), 143)]) 9 (.w 0 (.w 1 (.w 2 (.w 3 (.w 4 (.t 5 (.t 6 (.r 7 (.w 8 (.m 9 .nil)))))))))) ap14 ap14 st.drew (fun _ _ _ _ _ h => h) ?_
   have hd4 := st.drew
   clear st
   refine a0j rfl rfl apW ?_
   try simp only [clL]
   refine a0j rfl rfl apW ?_
   try simp only [clL]
   refine a0j rfl rfl apW ?_
   try simp only [clL]
   refine a0j rfl rfl apW ?_
   try simp only [clL]
   refine a0j rfl rfl apW ?_
   try simp only [clL]
   refine a0s rfl rfl rfl rfl ((f0D s k).L) (fun wx hS => St.rangeL hS 1 rfl (k * 12) _ (u0a s (k + 1) k ap16 ap16)) Tryz.underlying117 rfl ap6 ?_
   try simp only [clL]
   refine a0s rfl rfl rfl rfl (s.L) (fun wx hS => St.rangeL hS 0 rfl 0 _ dZl) Tryz.underlying117 rfl ap6 ?_
   try simp only [clL]
   refine a0w rfl rfl ?_
   go_simp
   refine (C0P s k gc _ (HCV.out.keep hd4.fr)).mono ?_
   rintro e' w5 ⟨rfl, hf5⟩
   have st5 := hd4.keep hf5
   clear hf5
   clear hd4
   refine ⟨st5, ?_⟩
   try simp only [clL]
   refine a0j rfl rfl apW ?_
   try simp only [clL]
   refine a0q rfl rfl ?_
   refine j0c st5 1 rfl rfl rfl rfl (tbL s ((k + 1) + 1)) (t0Z s (k + 1) ap16) (by rw [b0Y, PT.len]; omega) ap6 (PT.one _) ?_
   intro w6 st6
   have st6 : St Nob w w6 [(g3, s.L, 117), (g4, tbL s ((k + 1) + 1), 143)] := st6
   clear st5
   try simp only [Act.put]
   refine a0g ?_
   refine NoPanic.normal ?_
   go_wp2
   go_roundw
   case rel => exact ⟨k + 1, by omega, by simp, st6⟩
   case measure => simp [intOf]; omega
  ·have hk3 : k = 15 := by omega
   subst hk3
   have hc : ¬ (((15 : Nat) : Int) + 1 < 16) := by omega
   go_wp2_with (with_reducible refine wSk 22 ?_)
   refine a0p st 1 rfl rfl rfl Tryz.underlying143 rfl rfl (by first | (rw [a0i]; kernel_rfl) | (simp only [b0Y]; kernel_rfl)) ?_
   go_wp2_with (with_reducible refine wSn ?_)
   refine a0b st 1 rfl rfl rfl rfl rfl (by first | (simp only []; done) | (simp only [List.length_append, a0i, PT.len, b0Y]; done)) (by first | (rw [a0i]; kernel_rfl) | (simp only [b0Y]; kernel_rfl)) (t0Y _ _) ?_
   intro w5 st5
   clear st
   have hr := st5.at 1 rfl
   have hfr := st5.fr
   clear st5
   go_wp2_with fail
   exact bodyPost_ret (a0v rfl rfl hr Tryz.underlying143 (by first | (rw [a0i]; kernel_rfl) | (simp only [b0Y]; kernel_rfl))) rfl ⟨rfl, hfr⟩
end Go.Proofs.YtemcankmggmgoaaGreat
namespace Mvp
theorem x0k (n j : Nat) : lw n (4 * j / 64) / 2 ^ (4 * j % 64) % 16 = n / 16 ^ j % 16 := by
 have h64 : (18446744073709551616 : Nat) = 2 ^ (4 * j % 64) * 2 ^ (64 - 4 * j % 64) := by
  rw [← Nat.pow_add, show 4 * j % 64 + (64 - 4 * j % 64) = 64 by omega]
 have hd : (16 : Nat) ∣ 2 ^ (64 - 4 * j % 64) := by
  have : 64 - 4 * j % 64 = 4 + (60 - 4 * j % 64) := by omega
  rw [this, Nat.pow_add]
  exact Nat.dvd_mul_right _ _
 have hp : B64 ^ (4 * j / 64) * 2 ^ (4 * j % 64) = 16 ^ j := by
  have h16 : (16 : Nat) ^ j = 2 ^ (4 * j) := by rw [Nat.pow_mul]
  have hB : B64 ^ (4 * j / 64) = 2 ^ (64 * (4 * j / 64)) := by rw [Nat.pow_mul]
  rw [h16, hB, ← Nat.pow_add, Nat.div_add_mod]
 show n / B64 ^ (4 * j / 64) % 18446744073709551616 / 2 ^ (4 * j % 64) % 16 = _
 rw [h64, Nat.mod_mul_right_div_self, Nat.mod_mod_of_dvd _ hd, Nat.div_div_eq_div_mul, hp]
end Mvp
namespace Go.Mv
open Go.RowKit
theorem A0A {L R : List Value} {a n : Nat} (h : (L.drop a).take n = R) (b : Nat) (cs : List Value) (hb : b + cs.length ≤ n) (hc : (R.drop b).take cs.length = cs) : (L.drop (a + b)).take cs.length = cs := by
 rw [← h, List.drop_take, List.drop_drop, List.take_take, Nat.min_eq_left ap16] at hc
 exact hc
end Go.Mv
namespace Go.Proofs.YtemcankmggmgoaaGreat
open Go.RowKit Go.Mv Mvp Mvq
noncomputable def tmR (t : Nat × PT) : List Value := cw 4 t.1 ++ tbL t.2 16
theorem c0Z (t : Nat × PT) : (tmR t).length = 196 := by unfold tmR; rw [List.length_append, a0i, b0Y]
theorem x0l (t : Nat × PT) (k : Nat) (h : k < 4) : (tmR t)[k]? = some (.int .u64 (lw t.1 k)) := by
 unfold tmR
 rw [List.getElem?_append_left (by rw [a0i]; exact h)]
 exact a0G 4 t.1 k h
theorem A0B (t : Nat × PT) (d : Nat) (h : d < 16) : ((tmR t).drop (4 + d * 12)).take (f0D t.2 d).L.length = (f0D t.2 d).L := by
 have e : (tmR t).drop (4 + d * 12) = (tbL t.2 16).drop (d * 12) := by
  unfold tmR
  rw [List.drop_append, List.drop_of_length_le (by rw [a0i]; omega), List.nil_append, a0i, show 4 + d * 12 - 4 = d * 12 by omega]
 rw [e]
 exact u0a t.2 16 d h (Nat.le_refl _)
def g0U (l : List (Nat × PT)) (k : Nat) : Nat × PT := l.getD k (0, noT)
noncomputable def tmL (l : List (Nat × PT)) : List Value := (List.range l.length).flatMap fun k => tmR (g0U l k)
theorem A0C (l : List (Nat × PT)) : (tmL l).length = l.length * 196 := by
 rw [Nat.mul_comm]; exact d0w _ 196 (fun i => c0Z _) _
theorem u0b (l : List (Nat × PT)) (k : Nat) (h : k < l.length) : ((tmL l).drop (k * 196)).take (tmR (g0U l k)).length = tmR (g0U l k) :=
 q0j (fun k => tmR (g0U l k)) 196 (fun _ => c0Z _) l.length k h
theorem A0D (l : List (Nat × PT)) (k d : Nat) (h : k < l.length) (hd : d < 16) : ((tmL l).drop (k * 196 + (4 + d * 12))).take (f0D (g0U l k).2 d).L.length = (f0D (g0U l k).2 d).L := by
 refine A0A (u0b l k h) _ _ ?_ (A0B _ d hd)
 rw [c0Z, PT.len]; omega
noncomputable def dbN (o : PT) : Nat → PT
 | 0 => o
 | q + 1 => l0r (dbN o q)
theorem E0e (o : PT) (q gc : Nat) (w : World) (h : Cv w gc) : Calls Tryz.prog 158 #[.pointer (some ⟨gc, 0, none⟩), (.agg (dbN o q).L.toArray)] w fun e w' => e = .returned (.agg (dbN o (q + 1)).L.toArray) ∧ Fr Nob w w' := x0d (dbN o q) gc w h
theorem C0Q (o : PT) (_ : o.pt = o.pt) : (dbN o 4).pt = a0E 16 o.pt := by
 show (l0r (l0r (l0r (l0r o)))).pt = _
 rw [l0s, l0s, l0s, l0s, A0x o.onP]
noncomputable def h0T (l : List (Nat × PT)) (i : Nat) (o : PT) : Nat → PT
 | 0 => o
 | k + 1 => l0V (h0T l i o k) (f0D (g0U l k).2 (dig (63 - i) (g0U l k).1))
theorem C0R (l : List (Nat × PT)) (i : Nat) (o : PT) (k d : Nat) (hd : dig (63 - i) (g0U l k).1 = d) (gc : Nat) (w : World) (h : Cv w gc) : Calls Tryz.prog 159 #[.pointer (some ⟨gc, 0, none⟩), (.agg (h0T l i o k).L.toArray), (.agg (f0D (g0U l k).2 d).L.toArray)] w fun e w' => e = .returned (.agg (h0T l i o (k + 1)).L.toArray) ∧ Fr Nob w w' := by
 subst hd
 exact y0U (h0T l i o k) _ gc w h
noncomputable def h0B (l : List (Nat × PT)) : Nat → PT
 | 0 => noT
 | i + 1 => h0T l i (dbN (h0B l i) 4) l.length
theorem u0c (l : List (Nat × PT)) (i : Nat) : h0T l i (dbN (h0B l i) 4) l.length = h0B l (i + 1) := rfl
theorem u0d (l : List (Nat × PT)) : noT = h0B l 0 := rfl
theorem x0m (o : PT) : dbN o 0 = o := rfl
theorem u0e (l : List (Nat × PT)) (i : Nat) (o : PT) : h0T l i o 0 = o := rfl
noncomputable def j0e (l : List (Nat × PT)) : PT := h0B l 64
theorem A0E (l : List (Nat × PT)) : h0B l 64 = j0e l := rfl
attribute [local irreducible] a0C lw mix cw b0k b0y b0j a0M a0n beN b0F a0P b0C a0J a0R elN mdL a0S rtN rtV b0G gXn gYn PT.L l0V l0r f0D tbL tmR tmL dbN h0T h0B j0e dig
theorem A0F (t : Nat × PT) (i d : Nat) (hi : i < 64) (hd : dig (63 - i) t.1 = d) (w : World) :
  Calls Tryz.prog 160 #[.agg (tmR t).toArray, .int .i64 (i : Int)] w fun e w' => e = .returned (.int .u64 (d : Int)) ∧ Fr Nob w w' := by
 obtain ⟨a, ha⟩ : ∃ a, 252 - 4 * i = a := ⟨_, rfl⟩
 have ha2 : 4 * (63 - i) = a := by omega
 have hdd : lw t.1 (a / 64) / 2 ^ (a % 64) % 16 = d := by
  have := x0k t.1 (63 - i)
  rw [ha2] at this
  rw [this]
  unfold dig at hd
  exact hd
 have HD := qH hdd
 clear hd hdd
 have hal : a < 256 := by omega
 have haI : (256 : Int) - 4 * ((i : Int) + 1) = (a : Int) := by omega
 have st0 := St.start Nob w
 go_enter Tryz.func160, Tryz.ntmps160
 go_wp2_with (with_reducible refine wSk 2 ?_)
 refine a0l st0 rfl rfl rfl (tmR t) rfl ?_
 intro g1 w1 st1
 clear st0
 have c1 := (st1.at 0 rfl).cell (x0l t (a / 64) ap16)
 have hlo : (0 : Int) ≤ (a : Int) / 64 ∧ (a : Int) / 64 < 4 := by omega
 have hlo2 : (0 : Int) ≤ (a : Int) % 64 ∧ (a : Int) % 64 < 64 := by omega
 have e4 : ((a : Int) / 64).toNat = a / 64 := by omega
 have e5 : ((a : Int) % 64).toNat = a % 64 := by omega
 have hiI : (i : Int) < 64 := by omega
 have e6 : IntKind.i64.wrap ((i : Int) + 1) = (i : Int) + 1 := IntWalk.i64_in _ ap16
 have e7 : IntKind.i64.wrap (4 * ((i : Int) + 1)) = 4 * ((i : Int) + 1) := IntWalk.i64_in _ ap16
 have e8 : IntKind.i64.wrap (256 - 4 * ((i : Int) + 1)) = (a : Int) := by rw [haI]; exact IntWalk.i64_in _ ap16
 have hfr := st1.fr
 clear st1 haI
 have hw : lw t.1 (a / 64) / 2 ^ (a % 64) < 18446744073709551616 := Nat.lt_of_le_of_lt (Nat.div_le_self _ _) (c0Q _ _)
 have hb := bits_and_u64_nat (lw t.1 (a / 64) / 2 ^ (a % 64)) 15 hw ap16
 rw [show (15 : Nat) = 2 ^ 4 - 1 by decide, Nat.and_two_pow_sub_one_eq_mod, show (2 : Nat) ^ 4 - 1 = 15 by decide, show (2 : Nat) ^ 4 = 16 by decide] at hb
 simp only [Int.natCast_ediv, Int.natCast_pow, Int.cast_ofNat_Int] at hb
 clear ha ha2 hi
 go_wp2
 go_ret
 refine ⟨l0b ?_, hfr⟩
 rw [← HD.out]
 simp
theorem C0S (l : List (Nat × PT)) (gc : Nat) (a : Option Addr) (n c : Nat) (w : World) (h : Cv w gc) (hl : l.length = n) (hn : n ≤ 100000) (htm : Rd w a (l.length * 196) (tmL l)) :
  Calls Tryz.prog 98 #[.pointer (some ⟨gc, 0, none⟩), .slice a n c] w fun e w' => e = .returned (.agg (j0e l).L.toArray) ∧ Fr Nob w w' := by
 subst hl
 rw [← A0E]
 have HCV := qH h
 have HTM := qH htm
 clear h htm
 have st0 := St.start Nob w
 go_enter Tryz.func98, Tryz.ntmps98
 go_wp2_with (with_reducible refine wSk 4 ?_)
 refine a0a st0 rfl rfl (z := .agg (List.replicate 12 (.int .u64 0)).toArray) ap14 (cw 12 0) ap12 ?_
 intro g4 w1 st1
 clear st0
 go_wp2_with fail
 refine (n0m gc _ (HCV.out.keep st1.fr)).mono ?_
 rintro e' w2 ⟨rfl, hf2⟩
 have st2 := st1.keep hf2
 clear st1 hf2
 go_wp2_with (with_reducible refine wSk 5 ?_)
 refine a0a st2 rfl rfl (z := .agg (List.replicate 12 (.int .u64 0)).toArray) ap14 (cw 12 0) ap12 ?_
 intro g5 w3 st3
 clear st2
 go_wp2_with (with_reducible refine wSn ?_)
 refine a0b st3 1 rfl rfl rfl rfl rfl (by first | (simp only [a0i]; done) | (simp only [a0i, PT.len]; done)) ap6 (PT.one _) ?_
 intro w4 st4
 clear st3
 rw [u0d l] at st4
 go_wp2
 go_loopw [10] (fun x wr => ∃ i : Nat, i ≤ 64 ∧ x = .int .i64 (i : Int) ∧ St Nob w wr [(g4, cw 12 0, 117), (g5, (h0B l i).L, 117)]) (fun x _ => 64 - (intOf x).toNat)
 case atStart => exact ⟨0, by omega, rfl, st4⟩
 case round =>
  obtain ⟨i, hi, rfl, st⟩ := hrel
  clear st4
  by_cases hlt : i < 64
  ·have hltI : (i : Int) < 64 := by omega
   go_wp2
   go_loopw [13] (fun x wr => ∃ q : Nat, q ≤ 4 ∧ x = .int .i64 (q : Int) ∧ St Nob w wr [(g4, cw 12 0, 117), (g5, (dbN (h0B l i) q).L, 117)]) (fun x _ => 4 - (intOf x).toNat)
   case atStart => exact ⟨0, by omega, rfl, by rw [x0m]; exact st⟩
   case round =>
    obtain ⟨q, hq, rfl, st2⟩ := hrel
    clear st
    by_cases hq4 : q < 4
    ·have hqI : (q : Int) < 4 := by omega
     go_wp2_with (with_reducible refine wSk 16 ?_)
     refine a0p st2 1 rfl rfl rfl Tryz.underlying117 rfl rfl ap6 ?_
     go_wp2_with fail
     refine (E0e (h0B l i) q gc _ (HCV.out.keep st2.fr)).mono ?_
     rintro e' w5 ⟨rfl, hf5⟩
     have st5 := st2.keep hf5
     clear st2 hf5
     go_wp2_with (with_reducible refine wSn ?_)
     refine a0b st5 1 rfl rfl rfl rfl rfl (by first | (simp only [a0i]; done) | (simp only [PT.len]; done)) ap6 (PT.one _) ?_
     intro w6 st6
     clear st5
     go_wp2
     go_roundw
     case rel => exact ⟨q + 1, by omega, by go_num, st6⟩
     case measure => simp [intOf]; omega
    ·have hqI : ¬ ((q : Int) < 4) := by omega
     have hq5 : q = 4 := by omega
     rw [hq5] at st2
     clear hq5
     go_wp2
     go_loopw [21] (fun x wr => ∃ k : Nat, k ≤ l.length ∧ x = .int .i64 (k : Int) ∧ St Nob w wr [(g4, cw 12 0, 117), (g5, (h0T l i (dbN (h0B l i) 4) k).L, 117)]) (fun x _ => l.length - (intOf x).toNat)
     case atStart => exact ⟨0, by omega, rfl, by rw [u0e]; exact st2⟩
     case round =>
      obtain ⟨k, hk, rfl, st3⟩ := hrel
      clear st2
      by_cases hkl : k < l.length
      ·have hkI : (k : Int) < (l.length : Int) := by omega
       obtain ⟨ba, oa, hea, -⟩ := HTM.out.at ap16
       subst hea
       obtain ⟨d, hd⟩ : ∃ d, dig (63 - i) (g0U l k).1 = d := ⟨_, rfl⟩
       have hd16 : d < 16 := by rw [← hd]; unfold dig; exact Nat.mod_lt _ ap15
       have HD := qH hd
       have HIL := qH hlt
       have HKL := qH hkl
       clear hd hlt hkl
       have HD16 := qH hd16
       have hd1 : (0 : Int) ≤ (d : Int) := by omega
       have hd2 : (d : Int) < 16 := by omega
       go_wp2_with fail
       refine wp_region_noPanic ?_
       refine a0o (fun wx => St Nob w wx [(g4, cw 12 0, 117), (g5, (h0T l i (dbN (h0B l i) 4) k).L, 117)]) 15 (.w 0 (.t 1 (.w 2 (.w 3 (.w 4 (.w 5 (.w 6 (.t 7 (.w 8 (.w 10 (.w 11 (.r 9 (.w 12 (.t 13 (.r 14 (.m 15 .nil)))))))))))))))) ap14 ap14 st3.drew (fun _ _ _ _ _ h => h) ?_
       have hd4 := st3.drew
       clear st3
       refine a0j rfl rfl apW ?_
       try simp only [clL]
       refine a0s rfl rfl rfl rfl ((h0T l i (dbN (h0B l i) 4) k).L) (fun wx hS => St.rangeL hS 1 rfl 0 _ dZl) Tryz.underlying117 rfl ap6 ?_
       try simp only [clL]
       refine a0j rfl rfl apW ?_
       try simp only [clL]
       refine a0j rfl rfl apW ?_
       try simp only [clL]
       refine a0j rfl rfl apW ?_
       try simp only [clL]
       refine a0j rfl rfl apW ?_
       try simp only [clL]
       refine a0j rfl rfl apW ?_
       try simp only [clL]
       refine a0s rfl rfl rfl rfl (tmR (g0U l k)) (fun wx hS => (g0x (HTM.out.still (St.fr hS)) (k * 196) _ (u0b l k HKL.out))) Tryz.underlying147 rfl (by first | (rw [a0i]; kernel_rfl) | (simp only [c0Z]; kernel_rfl)) ?_
       try simp only [clL]
       refine a0j rfl rfl apW ?_
       try simp only [clL]
       refine a0j rfl rfl apW ?_
       try simp only [clL]
       refine a0j rfl rfl apW ?_
       try simp only [clL]
       refine a0w rfl rfl ?_
       go_simp
       refine (A0F (g0U l k) i d HIL.out HD.out _).mono ?_
       rintro e' w5 ⟨rfl, hf5⟩
       have st5 := hd4.keep hf5
       clear hf5
       clear hd4
       refine ⟨st5, ?_⟩
       try simp only [clL]
       refine a0j rfl rfl apW ?_
       try simp only [clL]
       refine a0s rfl rfl rfl rfl ((f0D (g0U l k).2 d).L) (fun wx hS => by have hr := g0x (HTM.out.still (St.fr hS)) (k * 196 + (4 + d * 12)) _ (A0D l k d HKL.out HD16.out); rw [← Nat.add_assoc, ← Nat.add_assoc] at hr; exact hr) Tryz.underlying117 rfl ap6 ?_
       try simp only [clL]
       refine a0w rfl rfl ?_
       go_simp
       refine (C0R l i (dbN (h0B l i) 4) k d HD.out gc _ (HCV.out.keep st5.fr)).mono ?_
       rintro e' w6 ⟨rfl, hf6⟩
       have st6 := st5.keep hf6
       clear hf6
       clear st5
       refine ⟨st6, ?_⟩
       try simp only [clL]
       refine a0q rfl rfl ?_
       refine a0h st6 1 rfl rfl rfl rfl (by first | (simp only [a0i]; done) | (simp only [PT.len]; done)) ap6 (PT.one _) ?_
       intro w7 st7
       clear st6
       try simp only [Act.put]
       refine a0g ?_
       refine NoPanic.normal ?_
       go_wp2
       go_roundw
       case rel => exact ⟨k + 1, by have := HKL.out; omega, by go_num, st7⟩
       case measure => have := HKL.out; simp [intOf]; omega
      ·have hkI : ¬ ((k : Int) < (l.length : Int)) := by omega
       have hk2 : k = l.length := by omega
       rw [hk2, u0c] at st3
       clear hk2
       go_wp2
       go_roundw
       case rel => exact ⟨i + 1, by omega, by go_num, st3⟩
       case measure => simp [intOf]; omega
  ·have hltI : ¬ ((i : Int) < 64) := by omega
   have hi2 : i = 64 := by omega
   rw [hi2] at st
   clear hi2
   go_wp2_with (with_reducible refine wSk 41 ?_)
   refine a0p st 1 rfl rfl rfl Tryz.underlying117 rfl rfl ap6 ?_
   go_wp2_with (with_reducible refine wSn ?_)
   refine a0b st 0 rfl rfl rfl rfl rfl (by first | (simp only [a0i]; done) | (simp only [a0i, PT.len]; done)) ap6 (PT.one _) ?_
   intro w5 st5
   clear st
   have hr := st5.at 0 rfl
   have hfr := st5.fr
   clear st5
   go_wp2_with fail
   exact bodyPost_ret (a0r rfl rfl hr Tryz.underlying117 rfl ap6) rfl ⟨rfl, hfr⟩
end Go.Proofs.YtemcankmggmgoaaGreat
namespace Go.Mv
open Go.RowKit
section
variable {P : Program} {w w0 : World} {ops : Array Oper} {rest : List Oper} {o : Oper} {a : Act} {Q : Exit → Act → World → Prop} {S : Nat → Prop} {bl : List (Nat × List Value × TypeId)} {K : Act → World → Prop}
theorem x0n (hst : St S w0 w bl) {t e : TypeId} {parts : Array (Nat × Operand)} (ho : o.op = .buildSlice t 1 parts) (hu : P.underlying t = some (.slice e)) {z : Value} {sz by_ : Nat} (hi0 : (P.info? e).map (fun i => (i.zero, i.size, i.bytes)) = some (some z, sz, by_)) (cs : List Value)
  (hp : (parts.toList.map fun p => (p.1, a.eval p.2)) = [(0, .agg cs.toArray)]) (hv : cs.length = sz) (h0 : 0 < sz) (h24 : sz ≤ 16777216)
  (h : ∀ g w', w.heap.size ≤ g → St S w0 w' (bl ++ [(g, cs, e)]) → K (a.put o.dst (.slice (some ⟨g, 0, none⟩) 1 1)) w') : o.wp P a w K Q := by
 obtain ⟨i, hi, hz0⟩ : ∃ i, P.info? e = some i ∧ (i.zero, i.size, i.bytes) = (some z, sz, by_) := by simpa using hi0
 simp only [Prod.mk.injEq] at hz0
 obtain ⟨hz1, hsz, hby⟩ := hz0
 have hf : Instr.fill (fun j => some (j * i.size, i.size)) ((Array.range (1 * i.size)).map (z.cells[· % z.cells.size]!)) (parts.map fun (i, x) => (i, a.eval x)).toList = some cs.toArray := by
  rw [show (parts.map fun (i, x) => (i, a.eval x)).toList = (parts.toList.map fun p => (p.1, a.eval p.2)) by simp, hp, hsz]
  have hfw := Great.fill_whole h0 [.agg cs.toArray] ((Array.range (1 * sz)).map (z.cells[· % z.cells.size]!)) (by intro v hv'; have h1 := List.mem_singleton.1 hv'; subst h1; show cs.toArray.size = sz; simpa using hv) ap17
  rw [show ([.agg cs.toArray] : List Value).flatMap (fun v => v.cells.toList) = cs by simp [Value.cells]] at hfw
  exact hfw
 exact wp_buildSlice t e 1 parts ho cs.toArray i z hu hi hz1 (by rw [hsz]; omega) (by rw [hsz]; omega) hf (h _ _ (Nat.le_refl _) (hst.new ((Fr.refl _ w).alloc _) (Has.new w cs.toArray e) (Nat.le_refl _)))
theorem j0f (hst : St S w0 w bl) (i : Nat) {g : Nat} {L : List Value} {T : TypeId} (hb : bl[i]? = some (g, L, T)) {s x : Operand} {t xt : TypeId} (hgd : o.guard = none) (ho : o.op = .call { callee := .builtin .append, args := #[s, x], argTypes := #[t, xt] })
  {e : TypeId} {k : IntKind} {z : Value} (ht : P.underlying t = some (.slice e)) (hxt : P.underlying xt = some (.int k)) (hi0 : (P.info? e).map (fun i => (i.zero, i.size, i.bytes)) = some (some z, 1, 1)) (hzc : z.cells = #[z]) (hone : z.oneCell' = true) {n m cap : Nat} (hs : a.eval s = .slice (some ⟨g, 0, none⟩) n cap) {kx : IntKind} (hx : a.eval x = .int kx (m : Int))
  (hfit : n + m ≤ cap) (hm : 0 < m) (hm2 : m ≤ 1000000) (hL : n + m ≤ L.length) (L' : List Value) (hL' : splice L n (List.replicate m z) = L')
  (h : ∀ w', St S w0 w' (bl.set i (g, L', T)) → wpList P ops Q rest (a.put o.dst (.slice (some ⟨g, 0, none⟩) (n + m) cap)) w') : wpList P ops Q (o :: rest) a w := by
 refine wpList_plain hgd fun K hK => ?_
 obtain ⟨j, hj, hz, hsize, hby⟩ := info_parts hi0
 obtain ⟨w', hst', hh, hfr, hz2⟩ := b0Q (P := P) g n T (List.replicate m z) 0 L w (hst.at i hb) (by simp; omega) (by intro v hv; rw [List.eq_of_mem_replicate hv]; exact hone)
 have hzz : (Builtin.zeroCells z.cells m).toList = List.replicate m z := by
  apply List.ext_getElem?
  intro q
  unfold Builtin.zeroCells
  rw [hzc]
  by_cases hq : q < m
  ·simp [hq, Nat.mod_one]
  ·simp [hq]
 have hwrap : IntKind.i64.wrap (m : Int) = (m : Int) := IntWalk.i64_in _ ap16
 have h1 : ¬ ((m : Int) < 0) := by omega
 have h2 : ¬ ((m : Int) * (1 : Int) > 2 ^ 48) := by omega
 have h2' : ¬ (2 ^ 48 < (m : Int)) := by omega
 have h3 : ¬ (m * 1 = 0) := by omega
 have h3' : m ≠ 0 := by omega
 have h4 : ¬ ((m : Int) ≤ 0) := by omega
 have hr : (Builtin.append_ #[t, xt] o.type #[.slice (some ⟨g, 0, none⟩) n cap, .int kx (m : Int)]).run P w = .ok (.slice (some ⟨g, 0, none⟩) (n + m) cap) w' := by
  simp [Builtin.append_, run_underlying ht, run_underlying hxt, sizeOf, typeInfo, hj, hsize, hby, hwrap, h1, h3', hfit, zeroValue, hz, d0S, asInt, asIntOf, hzz, hst']
  intro hbig
  omega
 unfold Oper.wp execOp
 simp only [ho, resolve, invoke, builtin, Sem.run_bind, Sem.run_pure, Result.andThen_ok, List.map_toArray, List.map_cons, List.map_nil, hs, hx, hr]
 rw [Nat.add_zero, hL'] at hh
 exact hK _ _ (h w' (hst.put i hb hfr hh))
theorem n0n (hst : St S w0 w bl) (i : Nat) {g : Nat} {L : List Value} {T : TypeId} (hb : bl[i]? = some (g, L, T)) {s x : Operand} {t : TypeId} (ho : o.op = .call { callee := .builtin .append, args := #[s, x], argTypes := #[t, t] })
  {e : TypeId} {z : Value} (ht : P.underlying t = some (.slice e)) (hi0 : (P.info? e).map (fun i => (i.zero, i.size, i.bytes)) = some (some z, 1, 1)) {n m cap c : Nat} (hs : a.eval s = .slice (some ⟨g, 0, none⟩) n cap) {xa : Option Addr} (hx : a.eval x = .slice xa m c) {news : List Value} (hnews : Rd w xa m news) (h1 : ∀ u ∈ news, u.oneCell' = true)
  (hfit : n + m ≤ cap) (hL : n + m ≤ L.length) (L' : List Value) (hL' : splice L n news = L')
  (h : ∀ w', St S w0 w' (bl.set i (g, L', T)) → K (a.put o.dst (.slice (some ⟨g, 0, none⟩) (n + m) cap)) w') : o.wp P a w K Q := by
 obtain ⟨j, hj, hz, hsize, hby⟩ := info_parts hi0
 have hlen := hnews.len
 obtain ⟨w', hr, hh, hfr, -⟩ := e0T (P := P) t o.type e j ht hj g 0 n cap L T (hst.at i hb) xa m c news (by rw [hsize, Nat.mul_one]; exact hnews) h1 hfit (by rw [hsize]; omega)
 rw [hsize, Nat.mul_one, Nat.zero_add, hL'] at hh
 unfold Oper.wp execOp
 simp only [ho, resolve, invoke, builtin, Sem.run_bind, Sem.run_pure, Result.andThen_ok, List.map_toArray, List.map_cons, List.map_nil, hs, hx, hr]
 exact h w' (hst.put i hb hfr hh)
end
end Go.Mv
namespace Go.Proofs.YtemcankmggmgoaaGreat
section
open Go.RowKit Go.Mv Mvp Mvq
theorem x0o (n : Nat) (s : PT) : Tryz.prog.built 147 [(0, i4 n), (1, .agg (tbL s 16).toArray)] = some (tmR (n, s)).toArray := by kernel_rfl
theorem A0G : (Tryz.prog.info? 147).map (fun i => (i.zero, i.size, i.bytes)) = some (some (.agg (List.replicate 196 (.int .u64 0)).toArray), 196, 1568) := by kernel_rfl
theorem A0H (t : Nat × PT) : tmL [t] = tmR t := by
 show (List.range 1).flatMap (fun k => tmR (g0U [t] k)) = tmR t
 simp [List.range_succ, g0U]
attribute [local irreducible] a0C lw mix cw b0k b0y b0j a0M a0n beN b0F a0P b0C a0J a0R elN mdL a0S rtN rtV b0G gXn gYn PT.L l0V l0r f0D tbL tmR tmL dbN h0T h0B j0e dig
theorem A0I (n : Nat) (s : PT) (gc : Nat) (w : World) (h : Cv w gc) :
  Calls Tryz.prog 87 #[.pointer (some ⟨gc, 0, none⟩), i4 n, .agg s.L.toArray] w fun e w' => e = .returned (.agg (j0e [(n, s)]).L.toArray) ∧ Fr Nob w w' := by
 have HCV := qH h
 clear h
 have st0 := St.start Nob w
 go_enter Tryz.func87, Tryz.ntmps87
 go_wp2_with (with_reducible refine wSk 4 ?_)
 refine a0l st0 rfl rfl rfl (cw 4 n) rfl ?_
 intro g4 w1 st1
 clear st0
 go_wp2_with (with_reducible refine wSk 5 ?_)
 refine a0l st1 rfl rfl rfl (s.L) rfl ?_
 intro g5 w2 st2
 clear st1
 go_wp2_with (with_reducible refine wSk 6 ?_)
 refine a0a st2 rfl rfl (z := .agg (List.replicate 12 (.int .u64 0)).toArray) ap14 (cw 12 0) ap12 ?_
 intro g6 w3 st3
 clear st2
 go_wp2_with fail
 refine wp_region_noPanic ?_
 refine a0o (fun wx => St Nob w wx [(g4, cw 4 n, 111), (g5, s.L, 117), (g6, cw 12 0, 117)]) 8 (.w 0 (.t 1 (.w 2 (.t 3 (.r 4 (.w 5 (.r 6 (.r 7 (.m 8 .nil))))))))) ap14 ap14 st3.drew (fun _ _ _ _ _ h => h) ?_
 have hd3 := st3.drew
 clear st3
 refine a0j rfl rfl apW ?_
 try simp only [clL]
 refine a0s rfl rfl rfl rfl (cw 4 n) (fun wx hS => St.rangeL hS 0 rfl 0 _ dZl) Tryz.underlying111 rfl (by first | (rw [a0i]; kernel_rfl) | (rw [PT.len]; kernel_rfl) | (rw [b0Y]; kernel_rfl) | (rw [c0Z]; kernel_rfl) | (simp only [List.length_append, a0i]; kernel_rfl) | (simp only [List.length_append, a0i, PT.len, b0Y, c0Z]; kernel_rfl)) ?_
 try simp only [clL]
 refine a0j rfl rfl apW ?_
 try simp only [clL]
 refine a0s rfl rfl rfl rfl (s.L) (fun wx hS => St.rangeL hS 1 rfl 0 _ dZl) Tryz.underlying117 rfl ap6 ?_
 try simp only [clL]
 refine a0w rfl rfl ?_
 go_simp
 refine (j0d s gc _ (HCV.out.keep hd3.fr)).mono ?_
 rintro e' w4 ⟨rfl, hf4⟩
 have st4 := hd3.keep hf4
 clear hf4
 clear hd3
 refine ⟨st4, ?_⟩
 try simp only [clL]
 refine a0j rfl rfl (b0A rfl _ (x0o _ _)) ?_
 try simp only [clL]
 refine a0w rfl rfl ?_
 refine x0n st4 rfl Tryz.underlying199 A0G (tmR (n, s)) rfl (c0Z _) ap15 ap15 ?_
 intro g13 w5 hg13 st5
 clear hg13
 have HRD := qH (show Rd w5 (some ⟨g13, 0, none⟩) (([(n, s)] : List (Nat × PT)).length * 196) (tmL [(n, s)]) by rw [A0H]; have h := Rd.whole (st5.at 3 rfl); rw [c0Z] at h; exact h)
 refine ⟨St.less st5 ap17, ?_⟩
 try simp only [clL]
 refine a0w rfl rfl ?_
 go_simp
 refine (C0S [(n, s)] gc (some ⟨g13, 0, none⟩) 1 1 _ (HCV.out.keep st5.fr) rfl ap15 HRD.out).mono ?_
 rintro e' w6 ⟨rfl, hf6⟩
 have st6 := st5.keep hf6
 clear hf6
 clear st5
 refine ⟨St.less st6 ap17, ?_⟩
 try simp only [clL]
 refine a0q rfl rfl ?_
 refine a0h st6 2 rfl rfl rfl rfl (by first | (simp only [a0i]; done) | (simp only [a0i, PT.len]; done)) ap6 (PT.one _) ?_
 intro w7 st7
 clear st6
 try simp only [Act.put]
 refine a0g ?_
 refine NoPanic.normal ?_
 have hr := st7.at 2 rfl
 have hfr := st7.fr
 clear st7
 go_wp2_with fail
 exact bodyPost_ret (a0r rfl rfl hr Tryz.underlying117 rfl ap6) rfl ⟨rfl, hfr⟩
end
section
open Go.RowKit Go.Mv Mvp Mvq
theorem q0l (n : Nat) : List.replicate n (Value.int .u8 0) = bs (List.replicate n 0) := by simp [bs]
theorem u0f : splice (bs (List.replicate 33 0)) 1 (List.replicate 32 (Value.int .u8 0)) = bs (List.replicate 33 0) := by rfl
def bb1 (b : Nat) : List Value := bs ([UInt8.ofNat b] ++ List.replicate 32 0)
def bb2 (b X : Nat) : List Value := bs (UInt8.ofNat b :: a0P X)
theorem A0J (b : Nat) : (bb1 b).length = 33 := by unfold bb1; rw [a0I]; simp
theorem u0g (b X : Nat) : (bb2 b X).length = 33 := by unfold bb2; rw [a0I, List.length_cons, a0X]
theorem n0o (b X : Nat) : splice (bb1 b) 1 (bs (a0P X)) = bb2 b X := by
 unfold bb1 bb2
 rw [d0C, k0j _ _ _ 1 (by simp [bs]) (by rw [a0I, a0I, a0X]; rfl), ← d0C]; rfl
theorem u0h (b : Nat) (hb : b < 256) : (bs (List.replicate 33 0)).set 0 (.int .u8 (b : Int)) = bb1 b := by
 unfold bb1
 have h := h0m (List.replicate 33 0) 0 (UInt8.ofNat b)
 rw [show ((UInt8.ofNat b).toNat : Int) = (b : Int) by rw [UInt8.toNat_ofNat']; omega] at h
 rw [h]; rfl
theorem C0T (b : Nat) (h : b = 0 ∨ b = 1) : bits .or .u8 2 (b : Int) = ((2 + b : Nat) : Int) := by
 rcases h with rfl | rfl <;> decide
attribute [local irreducible] a0C lw mix cw b0k b0y b0j a0M a0n beN b0F a0P b0C a0J a0R elN mdL a0S rtN rtV b0G gXn gYn bb1 bb2
theorem r0I (m : Md) (gc gp bx by_ : Nat) (w : World) (hok : m.Ok) (hcv : Has w gc (e0b m gp bx by_) 125) (hpm : Has w gp (mdL m) 187) (x y z : Nat) (hb : (z % m.M == 0) = true) :
  Calls Tryz.prog 88 #[.pointer (some ⟨gc, 0, none⟩), ptV m x y z] w fun e w' => ∃ sv, e = .returned sv ∧ Own w' w.heap.size 5 1 sv 33 (bs (List.replicate 33 0)) ∧ Fr Nob w w' := by
 have HOK := qH hok
 have HCV := qH hcv
 have HPM := qH hpm
 clear hok hcv hpm
 have HB := qH hb
 clear hb
 unfold ptV ptL
 have st0 := St.start Nob w
 go_enter Tryz.func88, Tryz.ntmps88
 go_wp2_with (with_reducible refine wSk 3 ?_)
 refine a0l st0 rfl rfl rfl (cw 4 (elN m x) ++ (cw 4 (elN m y) ++ cw 4 (elN m z))) rfl ?_
 intro g3 w1 st1
 clear st0
 go_wp2_with (with_reducible refine wSk 9 ?_)
 refine c0y rfl rfl Tryz.underlying22 b0K rfl rfl rfl 1 33 ap17 ap17 ap16 ap16 ap11 ?_
 intro w2 hg2 hf2 hz2
 clear hz2
 have st2 := st1.new hf2 hg2 (Nat.le_refl _)
 have hb2 := st1.fr.size
 skip
 clear st1 hg2 hf2
 generalize w1.heap.size = gb at *
 have HBB := qH hb2
 clear hb2
 rw [q0l] at st2
 go_wp2_with (with_reducible refine wSk 10 ?_)
 refine a0p st2 0 rfl rfl rfl Tryz.underlying117 rfl rfl ap4 ?_
 go_wp2_with fail
 refine (d0v m HOK.out x y z true HB.out _).mono ?_
 rintro e' w3 ⟨rfl, hf3⟩
 have st3 := st2.keep hf3
 clear st2 hf3
 go_wp2_with (with_reducible refine wSk 13 ?_)
 refine j0f st3 1 rfl rfl rfl Tryz.underlying22 Tryz.underlying3 b0K rfl rfl (n := 1) (m := 32) (cap := 33) rfl rfl ap15 ap15 ap15 (by rw [a0I, List.length_replicate]; decide) (bs (List.replicate 33 0)) u0f ?_
 intro w4 st4
 clear st3
 have hown : Own w4 w.heap.size 5 1 (.slice (some ⟨gb, 0, none⟩) 33 33) 33 (bs (List.replicate 33 0)) := by
  have h := st4.at 1 rfl
  exact Own.made h w.heap.size HBB.out 1 33 33 (Nat.le_refl _) ap11 ap15
 have hfr := st4.fr
 clear st4
 go_wp2_with fail
 go_ret
 exact ⟨_, rfl, hown, hfr⟩
theorem y0W (m : Md) (gp : Nat) (w : World) (hok : m.Ok) (hpm : Has w gp (mdL m) 187) (x r : Nat) (hr : x ^ (m.M - 2) = r) :
  Calls Tryz.prog 150 #[.pointer (some ⟨gp, 0, none⟩), i4 (elN m x)] w fun e w' => e = .returned (i4 (elN m r)) ∧ Fr Nob w w' := by
 subst hr; exact w0G m gp w hok hpm x
theorem j0g (m : Md) (gp : Nat) (w : World) (hok : m.Ok) (hpm : Has w gp (mdL m) 187) (x r : Nat) (hr : x % m.M = r) :
  Calls Tryz.prog 120 #[.pointer (some ⟨gp, 0, none⟩), i4 (elN m x)] w fun e w' => e = .returned (i4 r) ∧ Fr Nob w w' := by
 subst hr; exact f0e m gp w hok hpm x
theorem A0K (m : Md) (gc gp bx by_ : Nat) (w : World) (hok : m.Ok) (hcv : Has w gc (e0b m gp bx by_) 125) (hpm : Has w gp (mdL m) 187) (x y z : Nat) (hb : (z % m.M == 0) = false) (i ii i3 yy v xx u : Nat) (ei : z ^ (m.M - 2) = i) (eii : i * i = ii) (ei3 : ii * i = i3) (eyy : y * i3 = yy) (ev : yy % m.M = v) (exx : x * ii = xx) (eu : xx % m.M = u) :
  Calls Tryz.prog 88 #[.pointer (some ⟨gc, 0, none⟩), ptV m x y z] w fun e w' => ∃ sv, e = .returned sv ∧ Own w' w.heap.size 5 1 sv 33 (bs (UInt8.ofNat (2 + v % 2) :: a0P u)) ∧ Fr Nob w w' := by
 have HOK := qH hok
 have HCV := qH hcv
 have HPM := qH hpm
 clear hok hcv hpm
 have HB := qH hb
 have Hi := qH ei
 have Hii := qH eii
 have Hi3 := qH ei3
 have Hyy := qH eyy
 have Hv := qH ev
 have Hxx := qH exx
 have Hu := qH eu
 clear hb ei eii ei3 eyy ev exx eu
 unfold ptV ptL
 have st0 := St.start Nob w
 go_enter Tryz.func88, Tryz.ntmps88
 go_wp2_with (with_reducible refine wSk 3 ?_)
 refine a0l st0 rfl rfl rfl (cw 4 (elN m x) ++ (cw 4 (elN m y) ++ cw 4 (elN m z))) rfl ?_
 intro g3 w1 st1
 clear st0
 go_wp2_with (with_reducible refine wSk 9 ?_)
 refine c0y rfl rfl Tryz.underlying22 b0K rfl rfl rfl 1 33 ap17 ap17 ap16 ap16 ap11 ?_
 intro w2 hg2 hf2 hz2
 clear hz2
 have st2 := st1.new hf2 hg2 (Nat.le_refl _)
 have hb2 := st1.fr.size
 skip
 clear st1 hg2 hf2
 generalize w1.heap.size = gb at *
 have HBB := qH hb2
 clear hb2
 rw [q0l] at st2
 go_wp2_with (with_reducible refine wSk 10 ?_)
 refine a0p st2 0 rfl rfl rfl Tryz.underlying117 rfl rfl ap4 ?_
 go_wp2_with fail
 refine (d0v m HOK.out x y z false HB.out _).mono ?_
 rintro e' w3 ⟨rfl, hf3⟩
 have st3 := st2.keep hf3
 clear st2 hf3
 go_wp2_with fail
 refine wp_region_noPanic ?_
 refine a0o (fun wx => St Nob w wx [(g3, cw 4 (elN m x) ++ (cw 4 (elN m y) ++ cw 4 (elN m z)), 117), (gb, bs (List.replicate 33 0), 5)]) 8 (.w 0 (.w 1 (.w 2 (.t 3 (.w 4 (.t 5 (.b 6 7 (.r 7 (.m 8 .nil)) (.r 6 (.m 8 .nil))))))))) ap14 ap14 st3.drew (fun _ _ _ _ _ h => h) ?_
 have hd3 := st3.drew
 clear st3
 refine a0j rfl rfl apW ?_
 try simp only [clL]
 refine a0j rfl rfl apW ?_
 try simp only [clL]
 refine a0j rfl rfl apW ?_
 try simp only [clL]
 refine d0G (v := ?_) rfl rfl (fun wx hS => ?_) ?_
 rotate_left 1
 ·(have hc := (HCV.out.keep (St.fr hS) id).cell (i := 0) rfl; clear hS; go_simp; with_reducible rfl)
 try simp only [clL]
 refine a0j rfl rfl apW ?_
 try simp only [clL]
 refine a0s rfl rfl rfl rfl (cw 4 (elN m z)) (fun wx hS => St.rangeL hS 0 rfl 8 _ (g0y _ _ _)) Tryz.underlying66 rfl ap4 ?_
 try simp only [clL]
 refine e0s (C := fun g6 wz => St Nob w wz [(g3, cw 4 (elN m x) ++ (cw 4 (elN m y) ++ cw 4 (elN m z)), 117), (gb, bs (List.replicate 33 0), 5), (g6, cw 4 (elN m i), 66)]) (F := ?_) (fun key => ?_) ?_
 rotate_left 1
 ·skip
  refine d0H rfl rfl rfl rfl ?_ ?_
  ·skip
   go_simp
   refine (y0W m gp _ HOK.out (HPM.out.keep hd3.fr id) z i Hi.out).mono ?_
   rintro e' w4 ⟨rfl, hf4⟩
   have st4 := hd3.keep hf4
   clear hf4
   refine ⟨st4, ?_⟩
   try simp only [clL]
   refine a0w rfl rfl ?_
   refine b0u st4 rfl (z := zAd) ap14 (cw 4 0) ap12 ?_
   intro g6 w5 st5
   refine ⟨St.less st5 ap17, ?_⟩
   try simp only [clL]
   refine a0q rfl rfl ?_
   refine a0h st5 2 rfl rfl rfl rfl ap5 ap4 (a0f _ _) ?_
   intro w6 st6
   try simp only [Act.put]
   refine a0g ?_
   exact key g6 _ st6
  ·skip
   refine b0u hd3 rfl (z := zAd) ap14 (cw 4 0) ap12 ?_
   intro g6 w7 st7
   refine ⟨St.less st7 ap17, ?_⟩
   try simp only [clL]
   refine a0w rfl rfl ?_
   go_simp
   refine (y0W m gp _ HOK.out (HPM.out.keep st7.fr id) z i Hi.out).mono ?_
   rintro e' w8 ⟨rfl, hf8⟩
   have st8 := st7.keep hf8
   clear hf8
   refine ⟨St.less st8 ap17, ?_⟩
   try simp only [clL]
   refine a0q rfl rfl ?_
   refine a0h st8 2 rfl rfl rfl rfl ap5 ap4 (a0f _ _) ?_
   intro w9 st9
   try simp only [Act.put]
   refine a0g ?_
   exact key g6 _ st9
 intro g6 w10 st10
 have st10 : St Nob w w10 [(g3, cw 4 (elN m x) ++ (cw 4 (elN m y) ++ cw 4 (elN m z)), 117), (gb, bs (List.replicate 33 0), 5), (g6, cw 4 (elN m i), 66)] := st10
 clear hd3
 refine NoPanic.normal ?_
 go_wp2_with fail
 refine wp_region_noPanic ?_
 refine a0o (fun wx => St Nob w wx [(g3, cw 4 (elN m x) ++ (cw 4 (elN m y) ++ cw 4 (elN m z)), 117), (gb, bs (List.replicate 33 0), 5), (g6, cw 4 (elN m i), 66)]) 7 (.w 0 (.w 1 (.w 2 (.t 3 (.t 4 (.b 5 6 (.r 6 (.m 7 .nil)) (.r 5 (.m 7 .nil)))))))) ap14 ap14 st10.drew (fun _ _ _ _ _ h => h) ?_
 have hd10 := st10.drew
 clear st10
 refine a0j rfl rfl apW ?_
 try simp only [clL]
 refine a0j rfl rfl apW ?_
 try simp only [clL]
 refine a0j rfl rfl apW ?_
 try simp only [clL]
 refine d0G (v := ?_) rfl rfl (fun wx hS => ?_) ?_
 rotate_left 1
 ·(have hc := (HCV.out.keep (St.fr hS) id).cell (i := 0) rfl; clear hS; go_simp; with_reducible rfl)
 try simp only [clL]
 refine a0s rfl rfl rfl rfl (cw 4 (elN m i)) (fun wx hS => St.rangeL hS 2 rfl 0 _ dZl) Tryz.underlying66 rfl ap4 ?_
 try simp only [clL]
 refine e0s (C := fun g7 wz => St Nob w wz [(g3, cw 4 (elN m x) ++ (cw 4 (elN m y) ++ cw 4 (elN m z)), 117), (gb, bs (List.replicate 33 0), 5), (g6, cw 4 (elN m i), 66), (g7, cw 4 (elN m ii), 66)]) (F := ?_) (fun key => ?_) ?_
 rotate_left 1
 ·skip
  refine d0H rfl rfl rfl rfl ?_ ?_
  ·skip
   go_simp
   refine (b0X m gp _ HOK.out (HPM.out.keep hd10.fr id) i ii Hii.out).mono ?_
   rintro e' w11 ⟨rfl, hf11⟩
   have st11 := hd10.keep hf11
   clear hf11
   refine ⟨st11, ?_⟩
   try simp only [clL]
   refine a0w rfl rfl ?_
   refine b0u st11 rfl (z := zAd) ap14 (cw 4 0) ap12 ?_
   intro g7 w12 st12
   refine ⟨St.less st12 ap17, ?_⟩
   try simp only [clL]
   refine a0q rfl rfl ?_
   refine a0h st12 3 rfl rfl rfl rfl ap5 ap4 (a0f _ _) ?_
   intro w13 st13
   try simp only [Act.put]
   refine a0g ?_
   exact key g7 _ st13
  ·skip
   refine b0u hd10 rfl (z := zAd) ap14 (cw 4 0) ap12 ?_
   intro g7 w14 st14
   refine ⟨St.less st14 ap17, ?_⟩
   try simp only [clL]
   refine a0w rfl rfl ?_
   go_simp
   refine (b0X m gp _ HOK.out (HPM.out.keep st14.fr id) i ii Hii.out).mono ?_
   rintro e' w15 ⟨rfl, hf15⟩
   have st15 := st14.keep hf15
   clear hf15
   refine ⟨St.less st15 ap17, ?_⟩
   try simp only [clL]
   refine a0q rfl rfl ?_
   refine a0h st15 3 rfl rfl rfl rfl ap5 ap4 (a0f _ _) ?_
   intro w16 st16
   try simp only [Act.put]
   refine a0g ?_
   exact key g7 _ st16
 intro g7 w17 st17
 have st17 : St Nob w w17 [(g3, cw 4 (elN m x) ++ (cw 4 (elN m y) ++ cw 4 (elN m z)), 117), (gb, bs (List.replicate 33 0), 5), (g6, cw 4 (elN m i), 66), (g7, cw 4 (elN m ii), 66)] := st17
 clear hd10
 refine NoPanic.normal ?_
 go_wp2_with fail
 refine wp_region_noPanic ?_
 refine a0o (fun wx => St Nob w wx [(g3, cw 4 (elN m x) ++ (cw 4 (elN m y) ++ cw 4 (elN m z)), 117), (gb, bs (List.replicate 33 0), 5), (g6, cw 4 (elN m i), 66), (g7, cw 4 (elN m ii), 66)]) 20 (.w 0 (.w 1 (.w 2 (.t 3 (.w 4 (.w 5 (.w 6 (.t 7 (.w 8 (.t 9 (.w 10 (.w 11 (.w 12 (.t 13 (.t 14 (.t 15 (.b 16 19 (.b 17 19 (.b 18 19 (.r 19 (.m 20 .nil)) (.r 18 (.m 20 .nil))) (.r 17 (.r 18 (.m 20 .nil)))) (.r 16 (.r 17 (.r 18 (.m 20 .nil))))))))))))))))))))) ap14 ap14 st17.drew (fun _ _ _ _ _ h => h) ?_
 have hd17 := st17.drew
 clear st17
 refine a0j rfl rfl apW ?_
 try simp only [clL]
 refine a0j rfl rfl apW ?_
 try simp only [clL]
 refine a0j rfl rfl apW ?_
 try simp only [clL]
 refine d0G (v := ?_) rfl rfl (fun wx hS => ?_) ?_
 rotate_left 1
 ·(have hc := (HCV.out.keep (St.fr hS) id).cell (i := 0) rfl; clear hS; go_simp; with_reducible rfl)
 try simp only [clL]
 refine a0j rfl rfl apW ?_
 try simp only [clL]
 refine a0j rfl rfl apW ?_
 try simp only [clL]
 refine a0j rfl rfl apW ?_
 try simp only [clL]
 refine d0G (v := ?_) rfl rfl (fun wx hS => ?_) ?_
 rotate_left 1
 ·(have hc := (HCV.out.keep (St.fr hS) id).cell (i := 0) rfl; clear hS; go_simp; with_reducible rfl)
 try simp only [clL]
 refine a0j rfl rfl apW ?_
 try simp only [clL]
 refine a0s rfl rfl rfl rfl (cw 4 (elN m y)) (fun wx hS => St.rangeL hS 0 rfl 4 _ (n0M _ _ _)) Tryz.underlying66 rfl ap4 ?_
 try simp only [clL]
 refine a0j rfl rfl apW ?_
 try simp only [clL]
 refine a0j rfl rfl apW ?_
 try simp only [clL]
 refine a0j rfl rfl apW ?_
 try simp only [clL]
 refine d0G (v := ?_) rfl rfl (fun wx hS => ?_) ?_
 rotate_left 1
 ·(have hc := (HCV.out.keep (St.fr hS) id).cell (i := 0) rfl; clear hS; go_simp; with_reducible rfl)
 try simp only [clL]
 refine a0s rfl rfl rfl rfl (cw 4 (elN m ii)) (fun wx hS => St.rangeL hS 3 rfl 0 _ dZl) Tryz.underlying66 rfl ap4 ?_
 try simp only [clL]
 refine a0s rfl rfl rfl rfl (cw 4 (elN m i)) (fun wx hS => St.rangeL hS 2 rfl 0 _ dZl) Tryz.underlying66 rfl ap4 ?_
 try simp only [clL]
 refine e0s (C := fun g8 wz => St Nob w wz [(g3, cw 4 (elN m x) ++ (cw 4 (elN m y) ++ cw 4 (elN m z)), 117), (gb, bs (List.replicate 33 0), 5), (g6, cw 4 (elN m i), 66), (g7, cw 4 (elN m ii), 66), (g8, cw 4 v, 111)]) (F := ?_) (fun key => ?_) ?_
 rotate_left 1
 ·skip
  refine d0H rfl rfl rfl rfl ?_ ?_
  ·skip
   go_simp
   refine (c0o m gp _ HOK.out (HPM.out.keep hd17.fr id) ii i i3 Hi3.out).mono ?_
   rintro e' w18 ⟨rfl, hf18⟩
   have st18 := hd17.keep hf18
   clear hf18
   refine ⟨st18, ?_⟩
   try simp only [clL]
   refine d0H rfl rfl rfl rfl ?_ ?_
   ·skip
    go_simp
    refine (c0o m gp _ HOK.out (HPM.out.keep st18.fr id) y i3 yy Hyy.out).mono ?_
    rintro e' w19 ⟨rfl, hf19⟩
    have st19 := st18.keep hf19
    clear hf19
    refine ⟨st19, ?_⟩
    try simp only [clL]
    refine d0H rfl rfl rfl rfl ?_ ?_
    ·skip
     go_simp
     refine (j0g m gp _ HOK.out (HPM.out.keep st19.fr id) yy v Hv.out).mono ?_
     rintro e' w20 ⟨rfl, hf20⟩
     have st20 := st19.keep hf20
     clear hf20
     refine ⟨st20, ?_⟩
     try simp only [clL]
     refine a0w rfl rfl ?_
     refine b0u st20 rfl (z := zAd) ap14 (cw 4 0) ap12 ?_
     intro g8 w21 st21
     refine ⟨St.less st21 ap17, ?_⟩
     try simp only [clL]
     refine a0q rfl rfl ?_
     refine a0h st21 4 rfl rfl rfl rfl ap5 ap4 (a0f _ _) ?_
     intro w22 st22
     try simp only [Act.put]
     refine a0g ?_
     exact key g8 _ st22
    ·skip
     refine b0u st19 rfl (z := zAd) ap14 (cw 4 0) ap12 ?_
     intro g8 w23 st23
     refine ⟨St.less st23 ap17, ?_⟩
     try simp only [clL]
     refine a0w rfl rfl ?_
     go_simp
     refine (j0g m gp _ HOK.out (HPM.out.keep st23.fr id) yy v Hv.out).mono ?_
     rintro e' w24 ⟨rfl, hf24⟩
     have st24 := st23.keep hf24
     clear hf24
     refine ⟨St.less st24 ap17, ?_⟩
     try simp only [clL]
     refine a0q rfl rfl ?_
     refine a0h st24 4 rfl rfl rfl rfl ap5 ap4 (a0f _ _) ?_
     intro w25 st25
     try simp only [Act.put]
     refine a0g ?_
     exact key g8 _ st25
   ·skip
    refine b0u st18 rfl (z := zAd) ap14 (cw 4 0) ap12 ?_
    intro g8 w26 st26
    refine ⟨St.less st26 ap17, ?_⟩
    try simp only [clL]
    refine a0w rfl rfl ?_
    go_simp
    refine (c0o m gp _ HOK.out (HPM.out.keep st26.fr id) y i3 yy Hyy.out).mono ?_
    rintro e' w27 ⟨rfl, hf27⟩
    have st27 := st26.keep hf27
    clear hf27
    refine ⟨St.less st27 ap17, ?_⟩
    try simp only [clL]
    refine a0w rfl rfl ?_
    go_simp
    refine (j0g m gp _ HOK.out (HPM.out.keep st27.fr id) yy v Hv.out).mono ?_
    rintro e' w28 ⟨rfl, hf28⟩
    have st28 := st27.keep hf28
    clear hf28
    refine ⟨St.less st28 ap17, ?_⟩
    try simp only [clL]
    refine a0q rfl rfl ?_
    refine a0h st28 4 rfl rfl rfl rfl ap5 ap4 (a0f _ _) ?_
    intro w29 st29
    try simp only [Act.put]
    refine a0g ?_
    exact key g8 _ st29
  ·skip
   refine b0u hd17 rfl (z := zAd) ap14 (cw 4 0) ap12 ?_
   intro g8 w30 st30
   refine ⟨St.less st30 ap17, ?_⟩
   try simp only [clL]
   refine a0w rfl rfl ?_
   go_simp
   refine (c0o m gp _ HOK.out (HPM.out.keep st30.fr id) ii i i3 Hi3.out).mono ?_
   rintro e' w31 ⟨rfl, hf31⟩
   have st31 := st30.keep hf31
   clear hf31
   refine ⟨St.less st31 ap17, ?_⟩
   try simp only [clL]
   refine a0w rfl rfl ?_
   go_simp
   refine (c0o m gp _ HOK.out (HPM.out.keep st31.fr id) y i3 yy Hyy.out).mono ?_
   rintro e' w32 ⟨rfl, hf32⟩
   have st32 := st31.keep hf32
   clear hf32
   refine ⟨St.less st32 ap17, ?_⟩
   try simp only [clL]
   refine a0w rfl rfl ?_
   go_simp
   refine (j0g m gp _ HOK.out (HPM.out.keep st32.fr id) yy v Hv.out).mono ?_
   rintro e' w33 ⟨rfl, hf33⟩
   have st33 := st32.keep hf33
   clear hf33
   refine ⟨St.less st33 ap17, ?_⟩
   try simp only [clL]
   refine a0q rfl rfl ?_
   refine a0h st33 4 rfl rfl rfl rfl ap5 ap4 (a0f _ _) ?_
   intro w34 st34
   try simp only [Act.put]
   refine a0g ?_
   exact key g8 _ st34
 intro g8 w35 st35
 have st35 : St Nob w w35 [(g3, cw 4 (elN m x) ++ (cw 4 (elN m y) ++ cw 4 (elN m z)), 117), (gb, bs (List.replicate 33 0), 5), (g6, cw 4 (elN m i), 66), (g7, cw 4 (elN m ii), 66), (g8, cw 4 v, 111)] := st35
 clear hd17
 refine NoPanic.normal ?_
 have c1 := (st35.at 4 rfl).cell (a0G 4 v 0 ap15)
 obtain ⟨v3, c3, f3⟩ := (st35.at 1 rfl).ready (i := 0) (by rw [a0I, List.length_replicate]; decide)
 have ha := h0d v
 have hb2 : v % 2 = 0 ∨ v % 2 = 1 := by omega
 generalize hbv : v % 2 = b at *
 have HBV := qH hbv
 clear hbv
 have ho := C0T b hb2
 have hw8 : IntKind.u8.wrap (b : Int) = (b : Int) := by rcases hb2 with rfl | rfl <;> decide
 have hst2 := st35.set 1 rfl 0 (.int .u8 ((2 + b : Nat) : Int))
 rw [u0h (2 + b) ap16] at hst2
 have hw16 : IntKind.u8.wrap ((2 + b : Nat) : Int) = ((2 + b : Nat) : Int) := by rcases hb2 with rfl | rfl <;> decide
 have HB2 := qH hb2
 clear hb2
 go_wp2_with fail
 have st36 : St Nob w _ [(g3, cw 4 (elN m x) ++ (cw 4 (elN m y) ++ cw 4 (elN m z)), 117), (gb, bb1 (2 + b), 5), (g6, cw 4 (elN m i), 66), (g7, cw 4 (elN m ii), 66), (g8, cw 4 v, 111)] := hst2
 clear st35 hst2 c1 c3 f3 ha ho hw8 hw16
 go_wp2_with fail
 refine wp_region_noPanic ?_
 refine a0o (fun wx => St Nob w wx [(g3, cw 4 (elN m x) ++ (cw 4 (elN m y) ++ cw 4 (elN m z)), 117), (gb, bb1 (2 + b), 5), (g6, cw 4 (elN m i), 66), (g7, cw 4 (elN m ii), 66), (g8, cw 4 v, 111)]) 15 (.w 0 (.w 1 (.w 2 (.w 3 (.t 4 (.w 5 (.w 6 (.w 7 (.t 8 (.w 9 (.t 10 (.t 11 (.r 12 (.r 13 (.r 14 (.m 15 (.w 16 .nil))))))))))))))))) ap14 ap14 st36.drew (fun _ _ _ _ _ h => h) ?_
 have hd36 := st36.drew
 clear st36
 refine a0j rfl rfl apW ?_
 try simp only [clL]
 refine a0j rfl rfl apW ?_
 try simp only [clL]
 refine a0j rfl rfl apW ?_
 try simp only [clL]
 refine a0j rfl rfl apW ?_
 try simp only [clL]
 refine d0G (v := ?_) rfl rfl (fun wx hS => ?_) ?_
 rotate_left 1
 ·(have hc := (HCV.out.keep (St.fr hS) id).cell (i := 0) rfl; clear hS; go_simp; with_reducible rfl)
 try simp only [clL]
 refine a0j rfl rfl apW ?_
 try simp only [clL]
 refine a0j rfl rfl apW ?_
 try simp only [clL]
 refine a0j rfl rfl apW ?_
 try simp only [clL]
 refine d0G (v := ?_) rfl rfl (fun wx hS => ?_) ?_
 rotate_left 1
 ·(have hc := (HCV.out.keep (St.fr hS) id).cell (i := 0) rfl; clear hS; go_simp; with_reducible rfl)
 try simp only [clL]
 refine a0j rfl rfl apW ?_
 try simp only [clL]
 refine a0s rfl rfl rfl rfl (cw 4 (elN m x)) (fun wx hS => St.rangeL hS 0 rfl 0 _ (l0U _ _ _)) Tryz.underlying66 rfl ap4 ?_
 try simp only [clL]
 refine a0s rfl rfl rfl rfl (cw 4 (elN m ii)) (fun wx hS => St.rangeL hS 3 rfl 0 _ dZl) Tryz.underlying66 rfl ap4 ?_
 try simp only [clL]
 refine a0w rfl rfl ?_
 go_simp
 refine (c0o m gp _ HOK.out (HPM.out.keep hd36.fr id) x ii xx Hxx.out).mono ?_
 rintro e' w37 ⟨rfl, hf37⟩
 have st37 := hd36.keep hf37
 clear hf37
 clear hd36
 refine ⟨st37, ?_⟩
 try simp only [clL]
 refine a0w rfl rfl ?_
 go_simp
 refine (j0g m gp _ HOK.out (HPM.out.keep st37.fr id) xx u Hu.out).mono ?_
 rintro e' w38 ⟨rfl, hf38⟩
 have st38 := st37.keep hf38
 clear hf38
 clear st37
 refine ⟨st38, ?_⟩
 try simp only [clL]
 refine a0w rfl rfl ?_
 go_simp
 refine (j0X u _).mono ?_
 rintro e' w39 ⟨vb, rfl, hownb, hf39⟩
 have st39 := st38.keep hf39
 obtain ⟨va, vc, rfl, -, hrd, -⟩ := hownb.form
 clear hownb
 clear hf39
 clear st38
 refine ⟨st39, ?_⟩
 try simp only [clL]
 refine a0q rfl rfl ?_
 refine n0n st39 1 rfl rfl Tryz.underlying22 b0K (n := 1) (m := 32) (cap := 33) rfl rfl hrd (i0d _) ap15 (by have := A0J (2 + b); omega) (bb2 (2 + b) u) (n0o _ _) ?_
 intro w40 st40
 have st40 : St Nob w w40 [(g3, cw 4 (elN m x) ++ (cw 4 (elN m y) ++ cw 4 (elN m z)), 117), (gb, bb2 (2 + b) u, 5), (g6, cw 4 (elN m i), 66), (g7, cw 4 (elN m ii), 66), (g8, cw 4 v, 111)] := st40
 clear st39 hrd
 try simp only [clL]
 refine a0j rfl rfl apW ?_
 try simp only [clL]
 refine a0g ?_
 refine NoPanic.normal ?_
 have hown : Own w40 w.heap.size 5 1 (.slice (some ⟨gb, 0, none⟩) 33 33) 33 (bb2 (2 + b) u) := by
  have h := st40.at 1 rfl
  have h2 := Own.made h w.heap.size HBB.out 1 33 33 (Nat.le_refl _) ap11 (by have := u0g (2 + b) u; omega)
  rwa [List.take_of_length_le (by have := u0g (2 + b) u; omega)] at h2
 have hfr := st40.fr
 clear st40
 go_wp2_with fail
 go_ret
 exact ⟨_, rfl, by rw [HBV.out]; unfold bb2 at hown; exact hown, hfr⟩
end
end Go.Proofs.YtemcankmggmgoaaGreat
namespace Go.Mv
open Go.RowKit
section
variable {P : Program} {ops : Array Oper} {md : Region.Mode} {Q : Exit → Act → World → Prop} {S : World → Prop} {m : Nat}
def b0M (P : Program) (ops : Array Oper) (Q : Exit → Act → World → Prop) (S : World → Prop) : Pl → Act → World → Prop
 | .nil, a, w => Q .normal a w
 | .w i s, a, w => ∃ o v, ops[i]? = some o ∧ YieldsIf P ops (fun _ => True) o v a ∧ b0M P ops Q S s (a.put o.dst v) w
 | .t i s, a, w => ∃ o v, ops[i]? = some o ∧ YieldsIf P ops S o v a ∧ b0M P ops Q S s (a.put o.dst v) w
 | .r i s, a, w => wpOp P ops Q i (fun a' w' => S w' ∧ b0M P ops Q S s a' w') a w
 | .m i s, a, w => wpOp P ops Q i (fun a' w' => b0M P ops Q S s a' w') a w
 | .b _ _ _ _, _, _ => False
 | .c _ _ _ _ _ _, _, _ => False
theorem d0f (hsel : Region.noSelect ops = true) (hm : m < ops.size) (hQ : ∀ c (d : Option Tmp) v a w, Q (.panic c) (Act.put a d v) w → Q (.panic c) a w) :
  ∀ (s : Pl) (listed : Array Bool) (a : Act) (w : World), Cl md ops listed → c0b md ops m s listed = true → (listed.getD m true = false → S w) → b0M P ops Q S s a w → wpP P md ops Q S m s.len listed a w
 | .nil, listed, a, w, _, hB, _, h => ⟨by simpa [c0b] using hB, h⟩
 | .w i r, listed, a, w, inv, hB, hS, h => by
  obtain ⟨o, v, ho, hy, hK⟩ := h
  simp only [c0b, Bool.and_eq_true, decide_eq_true_eq] at hB
  obtain ⟨⟨⟨him, hr⟩, hf⟩, hB'⟩ := hB
  have hr' : i ∈ Region.ready md ops listed := by simpa using hr
  exact g0t ho (Region.noSelect_spec hsel) (fun c a w => hQ c o.dst v a w) him hm r.len listed a w inv (Region.free_spec ho hf) hr' hy hS
   (d0f hsel hm hQ r _ _ w (inv.set hr') hB' (fun h => hS (by rwa [getD_set_ne true him] at h)) hK)
 | .t i r, listed, a, w, inv, hB, hS, h => by
  obtain ⟨o, v, ho, hy, hK⟩ := h
  simp only [c0b, Bool.and_eq_true, decide_eq_true_eq] at hB
  obtain ⟨⟨⟨⟨⟨him, hml⟩, hr⟩, hf⟩, han⟩, hB'⟩ := hB
  have hr' : i ∈ Region.ready md ops listed := by simpa using hr
  exact i0O ho (Region.noSelect_spec hsel) (fun c a w => hQ c o.dst v a w) him han r.len listed a w inv hml (Region.free_spec ho hf) hr' hy (hS hml)
   (d0f hsel hm hQ r _ _ w (inv.set hr') hB' (fun _ => hS hml) hK)
 | .r i r, listed, a, w, inv, hB, hS, h => by
  simp only [c0b, Bool.and_eq_true, decide_eq_true_eq] at hB
  obtain ⟨⟨⟨him, hml⟩, hr⟩, hB'⟩ := hB
  have hr' : i ∈ Region.ready md ops listed := by rw [hr]; simp
  refine ⟨fun h0 => (by rw [hr] at h0; cases h0), fun j hj => ?_⟩
  rw [hr] at hj
  have hj' : j = i := by simpa using hj
  subst hj'
  exact wpOp_mono (fun a' w' h' => ⟨fun _ _ => h'.1, d0f hsel hm hQ r _ a' w' (inv.set hr') hB' (fun _ => h'.1) h'.2⟩) h
 | .m i r, listed, a, w, inv, hB, hS, h => by
  simp only [c0b, Bool.and_eq_true, Bool.or_eq_true, decide_eq_true_eq] at hB
  obtain ⟨⟨him, hr⟩, hB'⟩ := hB
  have hr' : i ∈ Region.ready md ops listed := by rw [hr]; simp
  refine ⟨fun h0 => (by rw [hr] at h0; cases h0), fun j hj => ?_⟩
  rw [hr] at hj
  have hj' : j = i := by simpa using hj
  subst hj'
  have hml : (listed.setIfInBounds j true).getD m true = true := by
   rcases him with e | e
   ·subst e; exact b0S (by rw [inv.size]; exact hm)
   ·by_cases e2 : j = m
    ·subst e2; exact b0S (by rw [inv.size]; exact hm)
    ·rw [getD_set_ne true e2]; exact e
  refine wpOp_mono (fun a' w' h' => ⟨fun h1 h2 => ?_, d0f hsel hm hQ r _ a' w' (inv.set hr') hB' (fun h1 => by rw [hml] at h1; cases h1) h'⟩) h
  rcases him with e | e
  ·exact absurd e h2
  ·rw [e] at h1; cases h1
 | .b _ _ _ _, _, _, _, _, _, _, h => h.elim
 | .c _ _ _ _ _ _, _, _, _, _, _, _, h => h.elim
theorem c0j {id : Nat} {a : Act} {w : World} {l : List Oper} (S : World → Prop) (m : Nat) (s : Pl) (hm : P.follows .mixedOrders = true) (hB : l0g l.toArray m s = true)
  (hS : S w.drew) (hQ : ∀ c (d : Option Tmp) v a w, Q (.panic c) (Act.put a d v) w → Q (.panic c) a w)
  (h : b0M P l.toArray Q S s a w.drew) : (Code.region id l.toArray true).wp P Q a w := by
 simp only [l0g, Bool.and_eq_true, decide_eq_true_eq] at hB
 obtain ⟨⟨⟨hsel, hms⟩, hlen⟩, hseq⟩ := hB
 have inv0 : Cl .any l.toArray (Array.replicate l.toArray.size false) :=
  ⟨by simp, fun j oj _ hl => (by rw [getD_replicate_false] at hl; cases hl)⟩
 have H := d0f (md := .any) hsel hms hQ s _ a w.drew inv0 hseq (fun _ => hS) h
 rw [hlen] at H
 exact wp_region_any hm (d0z _ _ _ _ H)
variable {l : List Oper} {i : Nat} {s : Pl} {a : Act} {w : World} {o : Oper}
theorem f0l (h : Q .normal a w) : b0M P ops Q S .nil a w := h
theorem a0x (ho : l[i]? = some o) (hg : Region.wanted o (yielded l.toArray a.tmps) = true) {v : Value} (hv : ∀ wx, (execOp a.eval o).run P wx = .ok (.value v) wx) (h : b0M P l.toArray Q S s (a.put o.dst v) w) : b0M P l.toArray Q S (.w i s) a w :=
 ⟨o, v, by simpa using ho, .inl ⟨hg, fun wx _ => hv wx⟩, h⟩
theorem b0P (ho : l[i]? = some o) (hg : Region.wanted o (yielded l.toArray a.tmps) = false) (h : b0M P l.toArray Q S s (a.put o.dst undef) w) : b0M P l.toArray Q S (.w i s) a w :=
 ⟨o, undef, by simpa using ho, .inr ⟨hg, rfl⟩, h⟩
theorem d0L (ho : l[i]? = some o) (hg : Region.wanted o (yielded l.toArray a.tmps) = false) (h : b0M P l.toArray Q S s (a.put o.dst undef) w) : b0M P l.toArray Q S (.t i s) a w :=
 ⟨o, undef, by simpa using ho, .inr ⟨hg, rfl⟩, h⟩
theorem d0l (ho : l[i]? = some o) (hg : Region.wanted o (yielded l.toArray a.tmps) = true) {v : Value} (hv : ∀ wx, S wx → (execOp a.eval o).run P wx = .ok (.value v) wx) (h : b0M P l.toArray Q S s (a.put o.dst v) w) : b0M P l.toArray Q S (.t i s) a w :=
 ⟨o, v, by simpa using ho, .inl ⟨hg, hv⟩, h⟩
theorem d0g (ho : l[i]? = some o) (hg : Region.wanted o (yielded l.toArray a.tmps) = true) {ty : TypeId} {x : Operand} (hop : o.op = .load ty x) {g p : Nat} (hx : a.eval x = .pointer (some ⟨g, p, none⟩)) (cs : List Value) (hS : ∀ wx, S wx → wx.rangeAt g p cs)
  {d : TypeDesc} (hu : P.underlying ty = some d) (hd : d.isRow = true) (hi : (P.info? ty).map (·.size) = some cs.length) (h : b0M P l.toArray Q S s (a.put o.dst (.agg cs.toArray)) w) : b0M P l.toArray Q S (.t i s) a w :=
 ⟨o, _, by simpa using ho, yieldsIf_load_mid hg ty x hop g p hx cs d hS hu hd hi, h⟩
theorem l0w (ho : l[i]? = some o) (hg : Region.wanted o (yielded l.toArray a.tmps) = true) (h : o.wp P a w (fun a' w' => S w' ∧ b0M P l.toArray Q S s a' w') Q) : b0M P l.toArray Q S (.r i s) a w := by
 have ho' : l.toArray[i]? = some o := by simpa using ho
 show wpOp _ _ _ _ _ _ _
 unfold wpOp
 simp only [ho']
 rw [if_pos hg]
 exact .inl h
theorem o0K (ho : l[i]? = some o) (hg : Region.wanted o (yielded l.toArray a.tmps) = false) (h : S w ∧ b0M P l.toArray Q S s (a.put o.dst undef) w) : b0M P l.toArray Q S (.r i s) a w := by
 have ho' : l.toArray[i]? = some o := by simpa using ho
 show wpOp _ _ _ _ _ _ _
 unfold wpOp
 simp only [ho']
 rw [if_neg (by rw [hg]; decide)]
 exact h
theorem j0h (ho : l[i]? = some o) (hg : Region.wanted o (yielded l.toArray a.tmps) = true) (h : o.wp P a w (fun a' w' => b0M P l.toArray Q S s a' w') Q) : b0M P l.toArray Q S (.m i s) a w := by
 have ho' : l.toArray[i]? = some o := by simpa using ho
 show wpOp _ _ _ _ _ _ _
 unfold wpOp
 simp only [ho']
 rw [if_pos hg]
 exact .inl h
end
end Go.Mv
