/- ; ; ; ; ; ; ; ; ; ; ; . -/
import Derived.Test.YtemcankmggmgoaaGreatMgSigmaBatchesProof5
import Derived.Test.YtemcankmggmgoaaGreatMgSigmaBatchesProof3
import Derived.Test.YtemcankmggmgoaaGreatMgSigmaBatchesProof4
import Derived.Test.YtemcankmggmgoaaGreatMgSigmaBatchesProof1
set_option maxHeartbeats 16000000
set_option maxRecDepth 1000000
open Go.Proofs.Tryz

namespace Go.Proofs.YtemcankmggmgoaaGreat
section
open Go.RowKit Go.Mv Mvp
attribute [local irreducible] bI lw mix cw cT dG cS bQ aO beN dO cI dI bM bT elN mdL cL
theorem uU (m : Md) (gc gp bx by_ : Nat) (w : World) (hok : m.Ok) (hcv : Has w gc (nT m gp bx by_) 125) (hpm : Has w gp (mdL m) 187) :
  Calls prog 157 #[.pointer (some ⟨gc, 0, none⟩)] w fun e w' => e = .returned (ptV m 1 1 0) ∧ Fr Nob w w' := by
 have HOK := qH hok
 have HCV := qH hcv
 have HPM := qH hpm
 clear hok hcv hpm
 have st0 := St.start Nob w
 go_enter func157, ntmps157
 go_wp2_with (with_reducible refine AA 2 ?_)
 refine aA st0 rfl rfl (z := zAc) Aa (cw 12 0) Af ?_
 intro g2 w1 st1
 clear st0
 go_wp2_with fail
 refine wp_region_noPanic ?_
 refine aE st1 11 [.w 0, .w 1, .w 2, .t 3, .w 5, .w 6, .w 7, .t 8, .c 4, .c 9, .w 10] (.m 11 .nil) Aa Aa (fun _ _ _ _ _ h => h) ?_
 clear st1
 iterate 3 (refine aS rfl rfl apX ?_; try simp only [J])
 refine dA (v := ?_) rfl rfl (fun xq wx hS => ?_) ?_
 rotate_left 1
 ·(have hc := (HCV.out.keep (St.fr hS) id).cell (i := 0) rfl; clear hS; go_simp; with_reducible rfl)
 try simp only [J]
 iterate 3 (refine aS rfl rfl apX ?_; try simp only [J])
 refine dA (v := ?_) rfl rfl (fun xq wx hS => ?_) ?_
 rotate_left 1
 ·(have hc := (HCV.out.keep (St.fr hS) id).cell (i := 0) rfl; clear hS; go_simp; with_reducible rfl)
 try simp only [J]
 refine aC rfl rfl rfl call148 (fun w hS hR => lI m gp _ HOK.out (HPM.out.keep hS.fr id)) (fun _ => rfl) ?_
 try simp only [J]
 refine aC rfl rfl rfl call148 (fun w hS hR => lI m gp _ HOK.out (HPM.out.keep hS.fr id)) (fun _ => rfl) ?_
 try simp only [J]
 refine aS rfl rfl (fun _ => cC rfl _ (i0q _ _)) ?_
 try simp only [J]
 refine bB fun xq w2 st2 hR => ?_
 try dsimp only
 clear hR xq
 refine aU rfl rfl ?_
 refine aG st2 0 rfl rfl rfl rfl Ai Aa (bX _ _ _) ?_
 intro w3 st3
 try simp only [List.nil_append, List.set_cons_zero] at st3
 clear st2
 try simp only [Act.put]
 refine aH ?_
 refine NoPanic.normal ?_
 have hr := st3.at 0 rfl
 have hfr := st3.fr
 clear st3
 go_wp2_with fail
 exact bodyPost_ret (aY rfl rfl hr underlying117 rfl Aa) rfl ⟨by unfold ptV ptL; rw [kE], hfr⟩
theorem b0O (m : Md) (gc gp bx by_ : Nat) (w : World) (hok : m.Ok) (hcv : Has w gc (nT m gp bx by_) 125) (hpm : Has w gp (mdL m) 187) :
  Calls prog 157 #[.pointer (some ⟨gc, 0, none⟩)] w fun e w' => e = .returned (.agg (cw 4 (elN m 1) ++ (cw 4 (elN m 1) ++ cw 4 (elN m 0))).toArray) ∧ Fr Nob w w' := uU m gc gp bx by_ w hok hcv hpm
theorem g0l (m : Md) (gc gp bx by_ : Nat) (w : World) (hok : m.Ok) (hcv : Has w gc (nT m gp bx by_) 125) (hpm : Has w gp (mdL m) 187) (x1 y1 z1 x2 y2 z2 : Nat) (hb1 : (z1 % m.M == 0) = true) :
  Calls prog 159 #[.pointer (some ⟨gc, 0, none⟩), ptV m x1 y1 z1, ptV m x2 y2 z2] w fun e w' => e = .returned (ptV m x2 y2 z2) ∧ Fr Nob w w' := by
 have HOK := qH hok
 have HCV := qH hcv
 have HPM := qH hpm
 clear hok hcv hpm
 have HB1 := qH hb1
 clear hb1
 unfold ptV ptL
 have st0 := St.start Nob w
 go_enter func159, ntmps159
 go_wp2_with (with_reducible refine AA 4 ?_)
 refine aL st0 rfl rfl rfl (cw 4 (elN m x1) ++ (cw 4 (elN m y1) ++ cw 4 (elN m z1))) rfl ?_
 intro g4 w1 st1
 clear st0
 go_wp2_with (with_reducible refine AA 5 ?_)
 refine aL st1 rfl rfl rfl (cw 4 (elN m x2) ++ (cw 4 (elN m y2) ++ cw 4 (elN m z2))) rfl ?_
 intro g5 w2 st2
 clear st1
 go_wp2_with (with_reducible refine AA 6 ?_)
 refine aA st2 rfl rfl (z := zAc) Aa (cw 12 0) Af ?_
 intro g6 w3 st3
 clear st2
 go_wp2_with (with_reducible refine AA 20 ?_)
 refine aM st3 0 rfl rfl rfl underlying117 rfl rfl Aa ?_
 go_wp2_with fail
 refine (iW m HOK.out x1 y1 z1 true HB1.out _).mono ?_
 rintro e' w4 ⟨rfl, hf4⟩
 have st4 := st3.keep hf4
 clear st3 hf4
 go_wp2_with (with_reducible refine AA 22 ?_)
 refine aM st4 1 rfl rfl rfl underlying117 rfl rfl Aa ?_
 go_wp2_with (with_reducible refine AB ?_)
 refine aB st4 2 rfl rfl rfl rfl rfl Ai Aa (bX _ _ _) ?_
 intro w5 st5
 clear st4
 have hr := st5.at 2 rfl
 have hfr := st5.fr
 clear st5
 go_wp2_with fail
 exact bodyPost_ret (aY rfl rfl hr underlying117 rfl Aa) rfl ⟨rfl, hfr⟩
theorem g0m (m : Md) (gc gp bx by_ : Nat) (w : World) (hok : m.Ok) (hcv : Has w gc (nT m gp bx by_) 125) (hpm : Has w gp (mdL m) 187) (x1 y1 z1 x2 y2 z2 : Nat) (hb1 : (z1 % m.M == 0) = false) (hb2 : (z2 % m.M == 0) = true) :
  Calls prog 159 #[.pointer (some ⟨gc, 0, none⟩), ptV m x1 y1 z1, ptV m x2 y2 z2] w fun e w' => e = .returned (ptV m x1 y1 z1) ∧ Fr Nob w w' := by
 have HOK := qH hok
 have HCV := qH hcv
 have HPM := qH hpm
 clear hok hcv hpm
 have HB1 := qH hb1
 have HB2 := qH hb2
 clear hb1 hb2
 unfold ptV ptL
 have st0 := St.start Nob w
 go_enter func159, ntmps159
 go_wp2_with (with_reducible refine AA 4 ?_)
 refine aL st0 rfl rfl rfl (cw 4 (elN m x1) ++ (cw 4 (elN m y1) ++ cw 4 (elN m z1))) rfl ?_
 intro g4 w1 st1
 clear st0
 go_wp2_with (with_reducible refine AA 5 ?_)
 refine aL st1 rfl rfl rfl (cw 4 (elN m x2) ++ (cw 4 (elN m y2) ++ cw 4 (elN m z2))) rfl ?_
 intro g5 w2 st2
 clear st1
 go_wp2_with (with_reducible refine AA 6 ?_)
 refine aA st2 rfl rfl (z := zAc) Aa (cw 12 0) Af ?_
 intro g6 w3 st3
 clear st2
 go_wp2_with (with_reducible refine AA 20 ?_)
 refine aM st3 0 rfl rfl rfl underlying117 rfl rfl Aa ?_
 go_wp2_with fail
 refine (iW m HOK.out x1 y1 z1 false HB1.out _).mono ?_
 rintro e' w4 ⟨rfl, hf4⟩
 have st4 := st3.keep hf4
 clear st3 hf4
 go_wp2_with (with_reducible refine AA 24 ?_)
 refine aM st4 1 rfl rfl rfl underlying117 rfl rfl Aa ?_
 go_wp2_with fail
 refine (iW m HOK.out x2 y2 z2 true HB2.out _).mono ?_
 rintro e' w5 ⟨rfl, hf5⟩
 have st5 := st4.keep hf5
 clear st4 hf5
 go_wp2_with (with_reducible refine AA 26 ?_)
 refine aM st5 0 rfl rfl rfl underlying117 rfl rfl Aa ?_
 go_wp2_with (with_reducible refine AB ?_)
 refine aB st5 2 rfl rfl rfl rfl rfl Ai Aa (bX _ _ _) ?_
 intro w6 st6
 clear st5
 have hr := st6.at 2 rfl
 have hfr := st6.fr
 clear st6
 go_wp2_with fail
 exact bodyPost_ret (aY rfl rfl hr underlying117 rfl Aa) rfl ⟨rfl, hfr⟩
end
section
open Go.RowKit Go.Mv Mvp
attribute [local irreducible] bI lw mix cw cT dG cS bQ aO beN dO cI dI bM bT elN mdL cL
def s0J (b c : Bool) (u v x : Value) : Value := match b, c with
 | false, _ => x
 | true, false => v
 | true, true => u
theorem i0C (m : Md) (gc gp bx by_ : Nat) (w : World) (hok : m.Ok) (hcv : Has w gc (nT m gp bx by_) 125) (hpm : Has w gp (mdL m) 187) (x1 y1 z1 x2 y2 z2 : Nat) (hb1 : (z1 % m.M == 0) = false) (hb2 : (z2 % m.M == 0) = false) (pp qq u1 u2 q3 s1 p3 s2 hd rr hh h3 v r2 v2 t1 X t2 t3 t4 Y zz Z DX DY DZ : Nat) (epp : z1 * z1 = pp) (eqq : z2 * z2 = qq) (eu1 : x1 * qq = u1) (eu2 : x2 * pp = u2) (eq3 : qq * z2 = q3) (es1 : y1 * q3 = s1) (ep3 : pp * z1 = p3) (es2 : y2 * p3 = s2) (ehd : u2 + (m.M - u1 % m.M) = hd) (err : s2 + (m.M - s1 % m.M) = rr) (ehh : hd * hd = hh) (eh3 : hh * hd = h3) (ev : u1 * hh = v) (er2 : rr * rr = r2) (ev2 : v + v = v2) (et1 : h3 + v2 = t1) (eX : r2 + (m.M - t1 % m.M) = X) (et2 : v + (m.M - X % m.M) = t2) (et3 : rr * t2 = t3) (et4 : s1 * h3 = t4) (eY : t3 + (m.M - t4 % m.M) = Y) (ezz : z1 * z2 = zz) (eZ : hd * zz = Z) (hd0 : ((hd % m.M == 0) = true → (rr % m.M == 0) = true → ∀ wx, Fr Nob w wx → Calls prog 158 #[.pointer (some ⟨gc, 0, none⟩), ptV m x1 y1 z1] wx fun e w' => e = .returned (ptV m DX DY DZ) ∧ Fr Nob wx w')) :
  Calls prog 159 #[.pointer (some ⟨gc, 0, none⟩), ptV m x1 y1 z1, ptV m x2 y2 z2] w fun e w' => e = .returned (s0J (hd % m.M == 0) (rr % m.M == 0) (ptV m DX DY DZ) (ptV m 1 1 0) (ptV m X Y Z)) ∧ Fr Nob w w' := by
 have HOK := qH hok
 have HCV := qH hcv
 have HPM := qH hpm
 clear hok hcv hpm
 have HB1 := qH hb1
 have HB2 := qH hb2
 have Hpp := qH epp
 have Hqq := qH eqq
 have Hu1 := qH eu1
 have Hu2 := qH eu2
 have Hq3 := qH eq3
 have Hs1 := qH es1
 have Hp3 := qH ep3
 have Hs2 := qH es2
 have Hhd := qH ehd
 have Hrr := qH err
 have Hhh := qH ehh
 have Hh3 := qH eh3
 have Hv := qH ev
 have Hr2 := qH er2
 have Hv2 := qH ev2
 have Ht1 := qH et1
 have HX := qH eX
 have Ht2 := qH et2
 have Ht3 := qH et3
 have Ht4 := qH et4
 have HY := qH eY
 have Hzz := qH ezz
 have HZ := qH eZ
 have HD0 := qH hd0
 clear hd0 hb1 hb2 epp eqq eu1 eu2 eq3 es1 ep3 es2 ehd err ehh eh3 ev er2 ev2 et1 eX et2 et3 et4 eY ezz eZ
 unfold ptV ptL
 have st0 := St.start Nob w
 go_enter func159, ntmps159
 go_wp2_with (with_reducible refine AA 4 ?_)
 refine aL st0 rfl rfl rfl (cw 4 (elN m x1) ++ (cw 4 (elN m y1) ++ cw 4 (elN m z1))) rfl ?_
 intro g4 w1 st1
 clear st0
 go_wp2_with (with_reducible refine AA 5 ?_)
 refine aL st1 rfl rfl rfl (cw 4 (elN m x2) ++ (cw 4 (elN m y2) ++ cw 4 (elN m z2))) rfl ?_
 intro g5 w2 st2
 clear st1
 go_wp2_with (with_reducible refine AA 6 ?_)
 refine aA st2 rfl rfl (z := zAc) (by kernel_rfl) (cw 12 0) (by rw [mG]; rfl) ?_
 intro g6 w3 st3
 clear st2
 go_wp2_with (with_reducible refine AA 20 ?_)
 refine aM st3 0 rfl rfl rfl underlying117 rfl rfl (by kernel_rfl) ?_
 go_wp2_with fail
 refine (iW m HOK.out x1 y1 z1 false HB1.out _).mono ?_
 rintro e' w4 ⟨rfl, hf4⟩
 have st4 := st3.keep hf4
 clear st3 hf4
 go_wp2_with (with_reducible refine AA 24 ?_)
 refine aM st4 1 rfl rfl rfl underlying117 rfl rfl (by kernel_rfl) ?_
 go_wp2_with fail
 refine (iW m HOK.out x2 y2 z2 false HB2.out _).mono ?_
 rintro e' w5 ⟨rfl, hf5⟩
 have st5 := st4.keep hf5
 clear st4 hf5
 go_wp2_with fail
 refine wp_region_noPanic ?_
 refine aE st5 17 [.o 14, .o 15, .w 0, .w 1, .w 2, .t 3, .w 4, .t 5, .w 7, .w 8, .w 9, .t 10, .w 11, .t 12, .c 6, .c 13, .j 14, .j 15] (.r 16 (.m 17 .nil)) (by kernel_rfl) (by kernel_rfl) (fun _ _ _ _ _ h => h) ?_
 clear st5
 refine dK rfl rfl rfl vT (cw 4 0) rfl ?_
 try simp only [J]
 refine dK rfl rfl rfl vT (cw 4 0) rfl ?_
 try simp only [J]
 refine aS (v := ?_) rfl rfl (fun xq wx => ?_) ?_
 rotate_left 1
 ·(go_simp; with_reducible rfl)
 try simp only [J]
 refine aS (v := ?_) rfl rfl (fun xq wx => ?_) ?_
 rotate_left 1
 ·(go_simp; with_reducible rfl)
 try simp only [J]
 refine aS (v := ?_) rfl rfl (fun xq wx => ?_) ?_
 rotate_left 1
 ·(go_simp; with_reducible rfl)
 try simp only [J]
 refine dA (v := ?_) rfl rfl (fun xq wx hS => ?_) ?_
 rotate_left 1
 ·(have hc := (HCV.out.keep (St.fr hS) id).cell (i := 0) rfl; clear hS; go_simp; with_reducible rfl)
 try simp only [J]
 refine aS (v := ?_) rfl rfl (fun xq wx => ?_) ?_
 rotate_left 1
 ·(go_simp; with_reducible rfl)
 try simp only [J]
 refine aD rfl rfl rfl (fun _ => rfl) (cw 4 (elN m z1)) (fun wx hS => St.rangeL hS 0 rfl 8 _ (mR _ _ _)) underlying66 rfl (by kernel_rfl) ?_
 try simp only [J]
 refine aS (v := ?_) rfl rfl (fun xq wx => ?_) ?_
 rotate_left 1
 ·(go_simp; with_reducible rfl)
 try simp only [J]
 refine aS (v := ?_) rfl rfl (fun xq wx => ?_) ?_
 rotate_left 1
 ·(go_simp; with_reducible rfl)
 try simp only [J]
 refine aS (v := ?_) rfl rfl (fun xq wx => ?_) ?_
 rotate_left 1
 ·(go_simp; with_reducible rfl)
 try simp only [J]
 refine dA (v := ?_) rfl rfl (fun xq wx hS => ?_) ?_
 rotate_left 1
 ·(have hc := (HCV.out.keep (St.fr hS) id).cell (i := 0) rfl; clear hS; go_simp; with_reducible rfl)
 try simp only [J]
 refine aS (v := ?_) rfl rfl (fun xq wx => ?_) ?_
 rotate_left 1
 ·(go_simp; with_reducible rfl)
 try simp only [J]
 refine aD rfl rfl rfl (fun _ => rfl) (cw 4 (elN m z2)) (fun wx hS => St.rangeL hS 1 rfl 8 _ (mR _ _ _)) underlying66 rfl (by kernel_rfl) ?_
 try simp only [J]
 refine aC rfl rfl rfl call151 (fun w hS hR => eK m gp _ HOK.out (HPM.out.keep hS.fr id) z1 pp Hpp.out) (fun _ => rfl) ?_
 try simp only [J]
 refine aC rfl rfl rfl call151 (fun w hS hR => eK m gp _ HOK.out (HPM.out.keep hS.fr id) z2 qq Hqq.out) (fun _ => rfl) ?_
 try simp only [J]
 refine dL (List.mem_cons_of_mem _ List.mem_cons_self) fun g7 => ?_
 simp only [upd, reduceIte]
 try simp only [Nat.reduceEqDiff, reduceIte]
 refine dL List.mem_cons_self fun g8 => ?_
 simp only [upd, reduceIte]
 refine bB fun xq w6 st6 hR => ?_
 try dsimp only
 clear hR xq
 refine bC rfl rfl ?_
 refine aG st6 3 rfl rfl rfl rfl (by simp [aT]) (by kernel_rfl) (aF _ _) ?_
 intro w7 st7
 repeat (first | simp only [List.cons_append] at st7 | simp only [List.nil_append] at st7 | simp only [List.set_cons_succ] at st7 | simp only [List.set_cons_zero] at st7)
 clear st6
 refine ⟨by first | exact st7 | exact St.less st7 (by simp), ?_⟩
 try simp only [Act.put]
 refine aU rfl rfl ?_
 refine aG st7 4 rfl rfl rfl rfl (by simp [aT]) (by kernel_rfl) (aF _ _) ?_
 intro w8 st8
 try simp only [List.set_cons_zero, List.set_cons_succ] at st8
 clear st7
 try simp only [Act.put]
 refine aH ?_
 refine NoPanic.normal ?_
 go_wp2_with fail
 refine wp_region_noPanic ?_
 refine aE st8 19 [.o 16, .o 17, .w 0, .w 1, .w 2, .t 3, .w 4, .t 5, .t 6, .w 8, .w 9, .w 10, .t 11, .w 12, .t 13, .t 14, .c 7, .c 15, .j 16, .j 17] (.r 18 (.m 19 .nil)) (by kernel_rfl) (by kernel_rfl) (fun _ _ _ _ _ h => h) ?_
 clear st8
 refine dK rfl rfl rfl vT (cw 4 0) rfl ?_
 try simp only [J]
 refine dK rfl rfl rfl vT (cw 4 0) rfl ?_
 try simp only [J]
 refine aS (v := ?_) rfl rfl (fun xq wx => ?_) ?_
 rotate_left 1
 ·(go_simp; with_reducible rfl)
 try simp only [J]
 refine aS (v := ?_) rfl rfl (fun xq wx => ?_) ?_
 rotate_left 1
 ·(go_simp; with_reducible rfl)
 try simp only [J]
 refine aS (v := ?_) rfl rfl (fun xq wx => ?_) ?_
 rotate_left 1
 ·(go_simp; with_reducible rfl)
 try simp only [J]
 refine dA (v := ?_) rfl rfl (fun xq wx hS => ?_) ?_
 rotate_left 1
 ·(have hc := (HCV.out.keep (St.fr hS) id).cell (i := 0) rfl; clear hS; go_simp; with_reducible rfl)
 try simp only [J]
 refine aS (v := ?_) rfl rfl (fun xq wx => ?_) ?_
 rotate_left 1
 ·(go_simp; with_reducible rfl)
 try simp only [J]
 refine aD rfl rfl rfl (fun _ => rfl) (cw 4 (elN m x1)) (fun wx hS => St.rangeL hS 0 rfl 0 _ (vS _ _ _)) underlying66 rfl (by kernel_rfl) ?_
 try simp only [J]
 refine aD rfl rfl rfl (fun _ => rfl) (cw 4 (elN m qq)) (fun wx hS => St.rangeL hS 4 rfl 0 _ dZl) underlying66 rfl (by kernel_rfl) ?_
 try simp only [J]
 refine aS (v := ?_) rfl rfl (fun xq wx => ?_) ?_
 rotate_left 1
 ·(go_simp; with_reducible rfl)
 try simp only [J]
 refine aS (v := ?_) rfl rfl (fun xq wx => ?_) ?_
 rotate_left 1
 ·(go_simp; with_reducible rfl)
 try simp only [J]
 refine aS (v := ?_) rfl rfl (fun xq wx => ?_) ?_
 rotate_left 1
 ·(go_simp; with_reducible rfl)
 try simp only [J]
 refine dA (v := ?_) rfl rfl (fun xq wx hS => ?_) ?_
 rotate_left 1
 ·(have hc := (HCV.out.keep (St.fr hS) id).cell (i := 0) rfl; clear hS; go_simp; with_reducible rfl)
 try simp only [J]
 refine aS (v := ?_) rfl rfl (fun xq wx => ?_) ?_
 rotate_left 1
 ·(go_simp; with_reducible rfl)
 try simp only [J]
 refine aD rfl rfl rfl (fun _ => rfl) (cw 4 (elN m x2)) (fun wx hS => St.rangeL hS 1 rfl 0 _ (vS _ _ _)) underlying66 rfl (by kernel_rfl) ?_
 try simp only [J]
 refine aD rfl rfl rfl (fun _ => rfl) (cw 4 (elN m pp)) (fun wx hS => St.rangeL hS 3 rfl 0 _ dZl) underlying66 rfl (by kernel_rfl) ?_
 try simp only [J]
 refine aC rfl rfl rfl call152 (fun w hS hR => fO m gp _ HOK.out (HPM.out.keep hS.fr id) x1 qq u1 Hu1.out) (fun _ => rfl) ?_
 try simp only [J]
 refine aC rfl rfl rfl call152 (fun w hS hR => fO m gp _ HOK.out (HPM.out.keep hS.fr id) x2 pp u2 Hu2.out) (fun _ => rfl) ?_
 try simp only [J]
 refine dL (List.mem_cons_of_mem _ List.mem_cons_self) fun g9 => ?_
 simp only [upd, reduceIte]
 try simp only [Nat.reduceEqDiff, reduceIte]
 refine dL List.mem_cons_self fun g10 => ?_
 simp only [upd, reduceIte]
 refine bB fun xq w9 st9 hR => ?_
 try dsimp only
 clear hR xq
 refine bC rfl rfl ?_
 refine aG st9 5 rfl rfl rfl rfl (by simp [aT]) (by kernel_rfl) (aF _ _) ?_
 intro w10 st10
 repeat (first | simp only [List.cons_append] at st10 | simp only [List.nil_append] at st10 | simp only [List.set_cons_succ] at st10 | simp only [List.set_cons_zero] at st10)
 clear st9
 refine ⟨by first | exact st10 | exact St.less st10 (by simp), ?_⟩
 try simp only [Act.put]
 refine aU rfl rfl ?_
 refine aG st10 6 rfl rfl rfl rfl (by simp [aT]) (by kernel_rfl) (aF _ _) ?_
 intro w11 st11
 try simp only [List.set_cons_zero, List.set_cons_succ] at st11
 clear st10
 try simp only [Act.put]
 refine aH ?_
 refine NoPanic.normal ?_
 go_wp2_with fail
 refine wp_region_noPanic ?_
 refine aE st11 33 [.o 30, .o 31, .w 0, .w 1, .w 2, .t 3, .w 4, .t 5, .w 6, .w 7, .w 8, .t 9, .t 10, .w 11, .t 12, .w 15, .w 16, .w 17, .t 18, .w 19, .t 20, .w 21, .w 22, .w 23, .t 24, .t 25, .w 26, .t 27, .c 13, .c 14, .c 28, .c 29, .j 30, .j 31] (.r 32 (.m 33 .nil)) (by kernel_rfl) (by kernel_rfl) (fun _ _ _ _ _ h => h) ?_
 clear st11
 refine dK rfl rfl rfl vT (cw 4 0) rfl ?_
 try simp only [J]
 refine dK rfl rfl rfl vT (cw 4 0) rfl ?_
 try simp only [J]
 refine aS (v := ?_) rfl rfl (fun xq wx => ?_) ?_
 rotate_left 1
 ·(go_simp; with_reducible rfl)
 try simp only [J]
 refine aS (v := ?_) rfl rfl (fun xq wx => ?_) ?_
 rotate_left 1
 ·(go_simp; with_reducible rfl)
 try simp only [J]
 refine aS (v := ?_) rfl rfl (fun xq wx => ?_) ?_
 rotate_left 1
 ·(go_simp; with_reducible rfl)
 try simp only [J]
 refine dA (v := ?_) rfl rfl (fun xq wx hS => ?_) ?_
 rotate_left 1
 ·(have hc := (HCV.out.keep (St.fr hS) id).cell (i := 0) rfl; clear hS; go_simp; with_reducible rfl)
 try simp only [J]
 refine aS (v := ?_) rfl rfl (fun xq wx => ?_) ?_
 rotate_left 1
 ·(go_simp; with_reducible rfl)
 try simp only [J]
 refine aD rfl rfl rfl (fun _ => rfl) (cw 4 (elN m y1)) (fun wx hS => St.rangeL hS 0 rfl 4 _ (a0z _ _ _)) underlying66 rfl (by kernel_rfl) ?_
 try simp only [J]
 refine aS (v := ?_) rfl rfl (fun xq wx => ?_) ?_
 rotate_left 1
 ·(go_simp; with_reducible rfl)
 try simp only [J]
 refine aS (v := ?_) rfl rfl (fun xq wx => ?_) ?_
 rotate_left 1
 ·(go_simp; with_reducible rfl)
 try simp only [J]
 refine aS (v := ?_) rfl rfl (fun xq wx => ?_) ?_
 rotate_left 1
 ·(go_simp; with_reducible rfl)
 try simp only [J]
 refine dA (v := ?_) rfl rfl (fun xq wx hS => ?_) ?_
 rotate_left 1
 ·(have hc := (HCV.out.keep (St.fr hS) id).cell (i := 0) rfl; clear hS; go_simp; with_reducible rfl)
 try simp only [J]
 refine aD rfl rfl rfl (fun _ => rfl) (cw 4 (elN m qq)) (fun wx hS => St.rangeL hS 4 rfl 0 _ dZl) underlying66 rfl (by kernel_rfl) ?_
 try simp only [J]
 refine aS (v := ?_) rfl rfl (fun xq wx => ?_) ?_
 rotate_left 1
 ·(go_simp; with_reducible rfl)
 try simp only [J]
 refine aD rfl rfl rfl (fun _ => rfl) (cw 4 (elN m z2)) (fun wx hS => St.rangeL hS 1 rfl 8 _ (mR _ _ _)) underlying66 rfl (by kernel_rfl) ?_
 try simp only [J]
 refine aS (v := ?_) rfl rfl (fun xq wx => ?_) ?_
 rotate_left 1
 ·(go_simp; with_reducible rfl)
 try simp only [J]
 refine aS (v := ?_) rfl rfl (fun xq wx => ?_) ?_
 rotate_left 1
 ·(go_simp; with_reducible rfl)
 try simp only [J]
 refine aS (v := ?_) rfl rfl (fun xq wx => ?_) ?_
 rotate_left 1
 ·(go_simp; with_reducible rfl)
 try simp only [J]
 refine dA (v := ?_) rfl rfl (fun xq wx hS => ?_) ?_
 rotate_left 1
 ·(have hc := (HCV.out.keep (St.fr hS) id).cell (i := 0) rfl; clear hS; go_simp; with_reducible rfl)
 try simp only [J]
 refine aS (v := ?_) rfl rfl (fun xq wx => ?_) ?_
 rotate_left 1
 ·(go_simp; with_reducible rfl)
 try simp only [J]
 refine aD rfl rfl rfl (fun _ => rfl) (cw 4 (elN m y2)) (fun wx hS => St.rangeL hS 1 rfl 4 _ (a0z _ _ _)) underlying66 rfl (by kernel_rfl) ?_
 try simp only [J]
 refine aS (v := ?_) rfl rfl (fun xq wx => ?_) ?_
 rotate_left 1
 ·(go_simp; with_reducible rfl)
 try simp only [J]
 refine aS (v := ?_) rfl rfl (fun xq wx => ?_) ?_
 rotate_left 1
 ·(go_simp; with_reducible rfl)
 try simp only [J]
 refine aS (v := ?_) rfl rfl (fun xq wx => ?_) ?_
 rotate_left 1
 ·(go_simp; with_reducible rfl)
 try simp only [J]
 refine dA (v := ?_) rfl rfl (fun xq wx hS => ?_) ?_
 rotate_left 1
 ·(have hc := (HCV.out.keep (St.fr hS) id).cell (i := 0) rfl; clear hS; go_simp; with_reducible rfl)
 try simp only [J]
 refine aD rfl rfl rfl (fun _ => rfl) (cw 4 (elN m pp)) (fun wx hS => St.rangeL hS 3 rfl 0 _ dZl) underlying66 rfl (by kernel_rfl) ?_
 try simp only [J]
 refine aS (v := ?_) rfl rfl (fun xq wx => ?_) ?_
 rotate_left 1
 ·(go_simp; with_reducible rfl)
 try simp only [J]
 refine aD rfl rfl rfl (fun _ => rfl) (cw 4 (elN m z1)) (fun wx hS => St.rangeL hS 0 rfl 8 _ (mR _ _ _)) underlying66 rfl (by kernel_rfl) ?_
 try simp only [J]
 refine aC rfl rfl rfl call152 (fun w hS hR => fO m gp _ HOK.out (HPM.out.keep hS.fr id) qq z2 q3 Hq3.out) (fun _ => rfl) ?_
 try simp only [J]
 refine aC rfl rfl rfl call152 (fun w hS hR => fO m gp _ HOK.out (HPM.out.keep hS.fr id) y1 q3 s1 Hs1.out) (fun _ => rfl) ?_
 try simp only [J]
 refine aC rfl rfl rfl call152 (fun w hS hR => fO m gp _ HOK.out (HPM.out.keep hS.fr id) pp z1 p3 Hp3.out) (fun _ => rfl) ?_
 try simp only [J]
 refine aC rfl rfl rfl call152 (fun w hS hR => fO m gp _ HOK.out (HPM.out.keep hS.fr id) y2 p3 s2 Hs2.out) (fun _ => rfl) ?_
 try simp only [J]
 refine dL (List.mem_cons_of_mem _ List.mem_cons_self) fun g11 => ?_
 simp only [upd, reduceIte]
 try simp only [Nat.reduceEqDiff, reduceIte]
 refine dL List.mem_cons_self fun g12 => ?_
 simp only [upd, reduceIte]
 refine bB fun xq w12 st12 hR => ?_
 try dsimp only
 clear hR xq
 refine bC rfl rfl ?_
 refine aG st12 7 rfl rfl rfl rfl (by simp [aT]) (by kernel_rfl) (aF _ _) ?_
 intro w13 st13
 repeat (first | simp only [List.cons_append] at st13 | simp only [List.nil_append] at st13 | simp only [List.set_cons_succ] at st13 | simp only [List.set_cons_zero] at st13)
 clear st12
 refine ⟨by first | exact st13 | exact St.less st13 (by simp), ?_⟩
 try simp only [Act.put]
 refine aU rfl rfl ?_
 refine aG st13 8 rfl rfl rfl rfl (by simp [aT]) (by kernel_rfl) (aF _ _) ?_
 intro w14 st14
 try simp only [List.set_cons_zero, List.set_cons_succ] at st14
 clear st13
 try simp only [Act.put]
 refine aH ?_
 refine NoPanic.normal ?_
 go_wp2_with fail
 refine wp_region_noPanic ?_
 refine aE st14 17 [.o 14, .o 15, .w 0, .w 1, .w 2, .t 3, .t 4, .t 5, .w 7, .w 8, .w 9, .t 10, .t 11, .t 12, .c 6, .c 13, .j 14, .j 15] (.r 16 (.m 17 .nil)) (by kernel_rfl) (by kernel_rfl) (fun _ _ _ _ _ h => h) ?_
 clear st14
 refine dK rfl rfl rfl vT (cw 4 0) rfl ?_
 try simp only [J]
 refine dK rfl rfl rfl vT (cw 4 0) rfl ?_
 try simp only [J]
 refine aS (v := ?_) rfl rfl (fun xq wx => ?_) ?_
 rotate_left 1
 ·(go_simp; with_reducible rfl)
 try simp only [J]
 refine aS (v := ?_) rfl rfl (fun xq wx => ?_) ?_
 rotate_left 1
 ·(go_simp; with_reducible rfl)
 try simp only [J]
 refine aS (v := ?_) rfl rfl (fun xq wx => ?_) ?_
 rotate_left 1
 ·(go_simp; with_reducible rfl)
 try simp only [J]
 refine dA (v := ?_) rfl rfl (fun xq wx hS => ?_) ?_
 rotate_left 1
 ·(have hc := (HCV.out.keep (St.fr hS) id).cell (i := 0) rfl; clear hS; go_simp; with_reducible rfl)
 try simp only [J]
 refine aD rfl rfl rfl (fun _ => rfl) (cw 4 (elN m u2)) (fun wx hS => St.rangeL hS 6 rfl 0 _ dZl) underlying66 rfl (by kernel_rfl) ?_
 try simp only [J]
 refine aD rfl rfl rfl (fun _ => rfl) (cw 4 (elN m u1)) (fun wx hS => St.rangeL hS 5 rfl 0 _ dZl) underlying66 rfl (by kernel_rfl) ?_
 try simp only [J]
 refine aS (v := ?_) rfl rfl (fun xq wx => ?_) ?_
 rotate_left 1
 ·(go_simp; with_reducible rfl)
 try simp only [J]
 refine aS (v := ?_) rfl rfl (fun xq wx => ?_) ?_
 rotate_left 1
 ·(go_simp; with_reducible rfl)
 try simp only [J]
 refine aS (v := ?_) rfl rfl (fun xq wx => ?_) ?_
 rotate_left 1
 ·(go_simp; with_reducible rfl)
 try simp only [J]
 refine dA (v := ?_) rfl rfl (fun xq wx hS => ?_) ?_
 rotate_left 1
 ·(have hc := (HCV.out.keep (St.fr hS) id).cell (i := 0) rfl; clear hS; go_simp; with_reducible rfl)
 try simp only [J]
 refine aD rfl rfl rfl (fun _ => rfl) (cw 4 (elN m s2)) (fun wx hS => St.rangeL hS 8 rfl 0 _ dZl) underlying66 rfl (by kernel_rfl) ?_
 try simp only [J]
 refine aD rfl rfl rfl (fun _ => rfl) (cw 4 (elN m s1)) (fun wx hS => St.rangeL hS 7 rfl 0 _ dZl) underlying66 rfl (by kernel_rfl) ?_
 try simp only [J]
 refine aC rfl rfl rfl call182 (fun w hS hR => pM m gp _ HOK.out (HPM.out.keep hS.fr id) u2 u1 hd Hhd.out) (fun _ => rfl) ?_
 try simp only [J]
 refine aC rfl rfl rfl call182 (fun w hS hR => pM m gp _ HOK.out (HPM.out.keep hS.fr id) s2 s1 rr Hrr.out) (fun _ => rfl) ?_
 try simp only [J]
 refine dL (List.mem_cons_of_mem _ List.mem_cons_self) fun g13 => ?_
 simp only [upd, reduceIte]
 try simp only [Nat.reduceEqDiff, reduceIte]
 refine dL List.mem_cons_self fun g14 => ?_
 simp only [upd, reduceIte]
 refine bB fun xq w15 st15 hR => ?_
 try dsimp only
 clear hR xq
 refine bC rfl rfl ?_
 refine aG st15 9 rfl rfl rfl rfl (by simp [aT]) (by kernel_rfl) (aF _ _) ?_
 intro w16 st16
 repeat (first | simp only [List.cons_append] at st16 | simp only [List.nil_append] at st16 | simp only [List.set_cons_succ] at st16 | simp only [List.set_cons_zero] at st16)
 clear st15
 refine ⟨by first | exact st16 | exact St.less st16 (by simp), ?_⟩
 try simp only [Act.put]
 refine aU rfl rfl ?_
 refine aG st16 10 rfl rfl rfl rfl (by simp [aT]) (by kernel_rfl) (aF _ _) ?_
 intro w17 st17
 try simp only [List.set_cons_zero, List.set_cons_succ] at st17
 clear st16
 try simp only [Act.put]
 refine aH ?_
 refine NoPanic.normal ?_
 rcases Bool.eq_false_or_eq_true (hd % m.M == 0) with hh0 | hh0
 ·have HHZ := qH hh0
  rcases Bool.eq_false_or_eq_true (rr % m.M == 0) with hr0 | hr0
  ·have HRZ := qH hr0
   have HDB := qH (show ∀ wx, Fr Nob w wx → Calls prog 158 #[.pointer (some ⟨gc, 0, none⟩), .agg (cw 4 (elN m x1) ++ (cw 4 (elN m y1) ++ cw 4 (elN m z1))).toArray] wx fun e w' => e = .returned (.agg (cw 4 (elN m DX) ++ (cw 4 (elN m DY) ++ cw 4 (elN m DZ))).toArray) ∧ Fr Nob wx w' from HD0.out hh0 hr0)
   clear hh0 hr0 HD0
   go_wp2_with (with_reducible refine AA 101 ?_)
   refine aI st17 9 rfl rfl rfl underlying66 rfl (by kernel_rfl) ?_
   go_wp2_with fail
   refine (jL m HOK.out hd true HHZ.out _).mono ?_
   rintro e' w18 ⟨rfl, hf18⟩
   have st18 := st17.keep hf18
   clear st17 hf18
   go_wp2_with (with_reducible refine AA 103 ?_)
   refine aI st18 10 rfl rfl rfl underlying66 rfl (by kernel_rfl) ?_
   go_wp2_with fail
   refine (jL m HOK.out rr true HRZ.out _).mono ?_
   rintro e' w19 ⟨rfl, hf19⟩
   have st19 := st18.keep hf19
   clear st18 hf19
   go_wp2_with (with_reducible refine AA 106 ?_)
   refine aM st19 0 rfl rfl rfl underlying117 rfl rfl (by kernel_rfl) ?_
   go_wp2_with fail
   refine (HDB.out _ st19.fr).mono ?_
   rintro e' w20 ⟨rfl, hf20⟩
   have st20 := st19.keep hf20
   clear st19 hf20
   go_wp2_with (with_reducible refine AB ?_)
   refine aB st20 2 rfl rfl rfl rfl rfl (by simp [aT]) (by kernel_rfl) (bX _ _ _) ?_
   intro w21 st21
   clear st20
   have hr := st21.at 2 rfl
   have hfr := st21.fr
   clear st21
   go_wp2_with fail
   exact bodyPost_ret (aY rfl rfl hr underlying117 rfl (by kernel_rfl)) rfl ⟨by rw [HHZ.out, HRZ.out]; rfl, hfr⟩
  ·have HRZ := qH hr0
   clear hh0 hr0 HD0
   go_wp2_with (with_reducible refine AA 101 ?_)
   refine aI st17 9 rfl rfl rfl underlying66 rfl (by kernel_rfl) ?_
   go_wp2_with fail
   refine (jL m HOK.out hd true HHZ.out _).mono ?_
   rintro e' w18 ⟨rfl, hf18⟩
   have st18 := st17.keep hf18
   clear st17 hf18
   go_wp2_with (with_reducible refine AA 103 ?_)
   refine aI st18 10 rfl rfl rfl underlying66 rfl (by kernel_rfl) ?_
   go_wp2_with fail
   refine (jL m HOK.out rr false HRZ.out _).mono ?_
   rintro e' w19 ⟨rfl, hf19⟩
   have st19 := st18.keep hf19
   clear st18 hf19
   go_wp2_with fail
   refine (b0O m gc gp bx by_ _ HOK.out (HCV.out.keep st19.fr id) (HPM.out.keep st19.fr id)).mono ?_
   rintro e' w20 ⟨rfl, hf20⟩
   have st20 := st19.keep hf20
   clear st19 hf20
   go_wp2_with (with_reducible refine AB ?_)
   refine aB st20 2 rfl rfl rfl rfl rfl (by simp [aT]) (by kernel_rfl) (bX _ _ _) ?_
   intro w21 st21
   clear st20
   have hr := st21.at 2 rfl
   have hfr := st21.fr
   clear st21
   go_wp2_with fail
   exact bodyPost_ret (aY rfl rfl hr underlying117 rfl (by kernel_rfl)) rfl ⟨by rw [HHZ.out, HRZ.out]; rfl, hfr⟩
 ·have HHZ := qH hh0
  clear hh0 HD0
  go_wp2_with (with_reducible refine AA 101 ?_)
  refine aI st17 9 rfl rfl rfl underlying66 rfl (by kernel_rfl) ?_
  go_wp2_with fail
  refine (jL m HOK.out hd false HHZ.out _).mono ?_
  rintro e' w18 ⟨rfl, hf18⟩
  have st18 := st17.keep hf18
  clear st17 hf18
  go_wp2_with fail
  refine wp_region_noPanic ?_
  refine aE st18 7 [.o 6, .w 0, .w 1, .w 2, .t 3, .t 4, .c 5, .j 6] (.m 7 .nil) (by kernel_rfl) (by kernel_rfl) (fun _ _ _ _ _ h => h) ?_
  clear st18
  refine dK rfl rfl rfl vT (cw 4 0) rfl ?_
  try simp only [J]
  refine aS (v := ?_) rfl rfl (fun xq wx => ?_) ?_
  rotate_left 1
  ·(go_simp; with_reducible rfl)
  try simp only [J]
  refine aS (v := ?_) rfl rfl (fun xq wx => ?_) ?_
  rotate_left 1
  ·(go_simp; with_reducible rfl)
  try simp only [J]
  refine aS (v := ?_) rfl rfl (fun xq wx => ?_) ?_
  rotate_left 1
  ·(go_simp; with_reducible rfl)
  try simp only [J]
  refine dA (v := ?_) rfl rfl (fun xq wx hS => ?_) ?_
  rotate_left 1
  ·(have hc := (HCV.out.keep (St.fr hS) id).cell (i := 0) rfl; clear hS; go_simp; with_reducible rfl)
  try simp only [J]
  refine aD rfl rfl rfl (fun _ => rfl) (cw 4 (elN m hd)) (fun wx hS => St.rangeL hS 9 rfl 0 _ dZl) underlying66 rfl (by kernel_rfl) ?_
  try simp only [J]
  refine aC rfl rfl rfl call151 (fun w hS hR => eK m gp _ HOK.out (HPM.out.keep hS.fr id) hd hh Hhh.out) (fun _ => rfl) ?_
  try simp only [J]
  refine dL List.mem_cons_self fun g15 => ?_
  simp only [upd, reduceIte]
  refine bB fun xq w19 st19 hR => ?_
  try dsimp only
  clear hR xq
  refine aU rfl rfl ?_
  refine aG st19 11 rfl rfl rfl rfl (by simp [aT]) (by kernel_rfl) (aF _ _) ?_
  intro w20 st20
  repeat (first | simp only [List.cons_append] at st20 | simp only [List.nil_append] at st20 | simp only [List.set_cons_succ] at st20 | simp only [List.set_cons_zero] at st20)
  clear st19
  try simp only [Act.put]
  refine aH ?_
  refine NoPanic.normal ?_
  go_wp2_with fail
  refine wp_region_noPanic ?_
  refine aE st20 8 [.o 7, .w 0, .w 1, .w 2, .t 3, .t 4, .t 5, .c 6, .j 7] (.m 8 .nil) (by kernel_rfl) (by kernel_rfl) (fun _ _ _ _ _ h => h) ?_
  clear st20
  refine dK rfl rfl rfl vT (cw 4 0) rfl ?_
  try simp only [J]
  refine aS (v := ?_) rfl rfl (fun xq wx => ?_) ?_
  rotate_left 1
  ·(go_simp; with_reducible rfl)
  try simp only [J]
  refine aS (v := ?_) rfl rfl (fun xq wx => ?_) ?_
  rotate_left 1
  ·(go_simp; with_reducible rfl)
  try simp only [J]
  refine aS (v := ?_) rfl rfl (fun xq wx => ?_) ?_
  rotate_left 1
  ·(go_simp; with_reducible rfl)
  try simp only [J]
  refine dA (v := ?_) rfl rfl (fun xq wx hS => ?_) ?_
  rotate_left 1
  ·(have hc := (HCV.out.keep (St.fr hS) id).cell (i := 0) rfl; clear hS; go_simp; with_reducible rfl)
  try simp only [J]
  refine aD rfl rfl rfl (fun _ => rfl) (cw 4 (elN m hh)) (fun wx hS => St.rangeL hS 11 rfl 0 _ dZl) underlying66 rfl (by kernel_rfl) ?_
  try simp only [J]
  refine aD rfl rfl rfl (fun _ => rfl) (cw 4 (elN m hd)) (fun wx hS => St.rangeL hS 9 rfl 0 _ dZl) underlying66 rfl (by kernel_rfl) ?_
  try simp only [J]
  refine aC rfl rfl rfl call152 (fun w hS hR => fO m gp _ HOK.out (HPM.out.keep hS.fr id) hh hd h3 Hh3.out) (fun _ => rfl) ?_
  try simp only [J]
  refine dL List.mem_cons_self fun g16 => ?_
  simp only [upd, reduceIte]
  refine bB fun xq w21 st21 hR => ?_
  try dsimp only
  clear hR xq
  refine aU rfl rfl ?_
  refine aG st21 12 rfl rfl rfl rfl (by simp [aT]) (by kernel_rfl) (aF _ _) ?_
  intro w22 st22
  repeat (first | simp only [List.cons_append] at st22 | simp only [List.nil_append] at st22 | simp only [List.set_cons_succ] at st22 | simp only [List.set_cons_zero] at st22)
  clear st21
  try simp only [Act.put]
  refine aH ?_
  refine NoPanic.normal ?_
  go_wp2_with fail
  refine wp_region_noPanic ?_
  refine aE st22 8 [.o 7, .w 0, .w 1, .w 2, .t 3, .t 4, .t 5, .c 6, .j 7] (.m 8 .nil) (by kernel_rfl) (by kernel_rfl) (fun _ _ _ _ _ h => h) ?_
  clear st22
  refine dK rfl rfl rfl vT (cw 4 0) rfl ?_
  try simp only [J]
  refine aS (v := ?_) rfl rfl (fun xq wx => ?_) ?_
  rotate_left 1
  ·(go_simp; with_reducible rfl)
  try simp only [J]
  refine aS (v := ?_) rfl rfl (fun xq wx => ?_) ?_
  rotate_left 1
  ·(go_simp; with_reducible rfl)
  try simp only [J]
  refine aS (v := ?_) rfl rfl (fun xq wx => ?_) ?_
  rotate_left 1
  ·(go_simp; with_reducible rfl)
  try simp only [J]
  refine dA (v := ?_) rfl rfl (fun xq wx hS => ?_) ?_
  rotate_left 1
  ·(have hc := (HCV.out.keep (St.fr hS) id).cell (i := 0) rfl; clear hS; go_simp; with_reducible rfl)
  try simp only [J]
  refine aD rfl rfl rfl (fun _ => rfl) (cw 4 (elN m u1)) (fun wx hS => St.rangeL hS 5 rfl 0 _ dZl) underlying66 rfl (by kernel_rfl) ?_
  try simp only [J]
  refine aD rfl rfl rfl (fun _ => rfl) (cw 4 (elN m hh)) (fun wx hS => St.rangeL hS 11 rfl 0 _ dZl) underlying66 rfl (by kernel_rfl) ?_
  try simp only [J]
  refine aC rfl rfl rfl call152 (fun w hS hR => fO m gp _ HOK.out (HPM.out.keep hS.fr id) u1 hh v Hv.out) (fun _ => rfl) ?_
  try simp only [J]
  refine dL List.mem_cons_self fun g17 => ?_
  simp only [upd, reduceIte]
  refine bB fun xq w23 st23 hR => ?_
  try dsimp only
  clear hR xq
  refine aU rfl rfl ?_
  refine aG st23 13 rfl rfl rfl rfl (by simp [aT]) (by kernel_rfl) (aF _ _) ?_
  intro w24 st24
  repeat (first | simp only [List.cons_append] at st24 | simp only [List.nil_append] at st24 | simp only [List.set_cons_succ] at st24 | simp only [List.set_cons_zero] at st24)
  clear st23
  try simp only [Act.put]
  refine aH ?_
  refine NoPanic.normal ?_
  go_wp2_with fail
  refine wp_region_noPanic ?_
  refine aE st24 25 [.o 24, .w 0, .w 1, .w 2, .t 3, .w 4, .w 5, .w 6, .t 7, .t 8, .w 10, .w 11, .w 12, .t 13, .t 14, .w 15, .w 16, .w 17, .t 18, .t 19, .t 20, .c 9, .c 21, .c 22, .c 23, .j 24] (.m 25 .nil) (by kernel_rfl) (by kernel_rfl) (fun _ _ _ _ _ h => h) ?_
  clear st24
  refine dK rfl rfl rfl vT (cw 4 0) rfl ?_
  try simp only [J]
  refine aS (v := ?_) rfl rfl (fun xq wx => ?_) ?_
  rotate_left 1
  ·(go_simp; with_reducible rfl)
  try simp only [J]
  refine aS (v := ?_) rfl rfl (fun xq wx => ?_) ?_
  rotate_left 1
  ·(go_simp; with_reducible rfl)
  try simp only [J]
  refine aS (v := ?_) rfl rfl (fun xq wx => ?_) ?_
  rotate_left 1
  ·(go_simp; with_reducible rfl)
  try simp only [J]
  refine dA (v := ?_) rfl rfl (fun xq wx hS => ?_) ?_
  rotate_left 1
  ·(have hc := (HCV.out.keep (St.fr hS) id).cell (i := 0) rfl; clear hS; go_simp; with_reducible rfl)
  try simp only [J]
  refine aS (v := ?_) rfl rfl (fun xq wx => ?_) ?_
  rotate_left 1
  ·(go_simp; with_reducible rfl)
  try simp only [J]
  refine aS (v := ?_) rfl rfl (fun xq wx => ?_) ?_
  rotate_left 1
  ·(go_simp; with_reducible rfl)
  try simp only [J]
  refine aS (v := ?_) rfl rfl (fun xq wx => ?_) ?_
  rotate_left 1
  ·(go_simp; with_reducible rfl)
  try simp only [J]
  refine dA (v := ?_) rfl rfl (fun xq wx hS => ?_) ?_
  rotate_left 1
  ·(have hc := (HCV.out.keep (St.fr hS) id).cell (i := 0) rfl; clear hS; go_simp; with_reducible rfl)
  try simp only [J]
  refine aD rfl rfl rfl (fun _ => rfl) (cw 4 (elN m rr)) (fun wx hS => St.rangeL hS 10 rfl 0 _ dZl) underlying66 rfl (by kernel_rfl) ?_
  try simp only [J]
  refine aS (v := ?_) rfl rfl (fun xq wx => ?_) ?_
  rotate_left 1
  ·(go_simp; with_reducible rfl)
  try simp only [J]
  refine aS (v := ?_) rfl rfl (fun xq wx => ?_) ?_
  rotate_left 1
  ·(go_simp; with_reducible rfl)
  try simp only [J]
  refine aS (v := ?_) rfl rfl (fun xq wx => ?_) ?_
  rotate_left 1
  ·(go_simp; with_reducible rfl)
  try simp only [J]
  refine dA (v := ?_) rfl rfl (fun xq wx hS => ?_) ?_
  rotate_left 1
  ·(have hc := (HCV.out.keep (St.fr hS) id).cell (i := 0) rfl; clear hS; go_simp; with_reducible rfl)
  try simp only [J]
  refine aD rfl rfl rfl (fun _ => rfl) (cw 4 (elN m h3)) (fun wx hS => St.rangeL hS 12 rfl 0 _ dZl) underlying66 rfl (by kernel_rfl) ?_
  try simp only [J]
  refine aS (v := ?_) rfl rfl (fun xq wx => ?_) ?_
  rotate_left 1
  ·(go_simp; with_reducible rfl)
  try simp only [J]
  refine aS (v := ?_) rfl rfl (fun xq wx => ?_) ?_
  rotate_left 1
  ·(go_simp; with_reducible rfl)
  try simp only [J]
  refine aS (v := ?_) rfl rfl (fun xq wx => ?_) ?_
  rotate_left 1
  ·(go_simp; with_reducible rfl)
  try simp only [J]
  refine dA (v := ?_) rfl rfl (fun xq wx hS => ?_) ?_
  rotate_left 1
  ·(have hc := (HCV.out.keep (St.fr hS) id).cell (i := 0) rfl; clear hS; go_simp; with_reducible rfl)
  try simp only [J]
  refine aD rfl rfl rfl (fun _ => rfl) (cw 4 (elN m v)) (fun wx hS => St.rangeL hS 13 rfl 0 _ dZl) underlying66 rfl (by kernel_rfl) ?_
  try simp only [J]
  refine aD rfl rfl rfl (fun _ => rfl) (cw 4 (elN m v)) (fun wx hS => St.rangeL hS 13 rfl 0 _ dZl) underlying66 rfl (by kernel_rfl) ?_
  try simp only [J]
  refine aC rfl rfl rfl call151 (fun w hS hR => eK m gp _ HOK.out (HPM.out.keep hS.fr id) rr r2 Hr2.out) (fun _ => rfl) ?_
  try simp only [J]
  refine aC rfl rfl rfl call171 (fun w hS hR => jZ m gp _ HOK.out (HPM.out.keep hS.fr id) v v v2 Hv2.out) (fun _ => rfl) ?_
  try simp only [J]
  refine aC rfl rfl rfl call171 (fun w hS hR => jZ m gp _ HOK.out (HPM.out.keep hS.fr id) h3 v2 t1 Ht1.out) (fun _ => rfl) ?_
  try simp only [J]
  refine aC rfl rfl rfl call182 (fun w hS hR => pM m gp _ HOK.out (HPM.out.keep hS.fr id) r2 t1 X HX.out) (fun _ => rfl) ?_
  try simp only [J]
  refine dL List.mem_cons_self fun g18 => ?_
  simp only [upd, reduceIte]
  refine bB fun xq w25 st25 hR => ?_
  try dsimp only
  clear hR xq
  refine aU rfl rfl ?_
  refine aG st25 14 rfl rfl rfl rfl (by simp [aT]) (by kernel_rfl) (aF _ _) ?_
  intro w26 st26
  repeat (first | simp only [List.cons_append] at st26 | simp only [List.nil_append] at st26 | simp only [List.set_cons_succ] at st26 | simp only [List.set_cons_zero] at st26)
  clear st25
  try simp only [Act.put]
  refine aH ?_
  refine NoPanic.normal ?_
  go_wp2_with fail
  refine wp_region_noPanic ?_
  refine aE st26 42 [.t 0, .w 1, .w 2, .w 3, .t 4, .w 5, .w 6, .w 7, .t 8, .t 9, .w 10, .w 11, .w 12, .t 13, .t 14, .t 15, .w 18, .w 19, .w 20, .t 21, .t 22, .t 23, .w 26, .w 27, .w 28, .t 29, .t 30, .w 31, .w 32, .w 33, .t 34, .w 35, .t 36, .w 37, .t 38, .c 16, .c 17, .c 24, .c 25, .c 39, .c 40, .w 41] (.m 42 .nil) (by kernel_rfl) (by kernel_rfl) (fun _ _ _ _ _ h => h) ?_
  clear st26
  refine aD rfl rfl rfl (fun _ => rfl) (cw 4 (elN m X)) (fun wx hS => St.rangeL hS 14 rfl 0 _ dZl) underlying66 rfl (by kernel_rfl) ?_
  try simp only [J]
  refine aS (v := ?_) rfl rfl (fun xq wx => ?_) ?_
  rotate_left 1
  ·(go_simp; with_reducible rfl)
  try simp only [J]
  refine aS (v := ?_) rfl rfl (fun xq wx => ?_) ?_
  rotate_left 1
  ·(go_simp; with_reducible rfl)
  try simp only [J]
  refine aS (v := ?_) rfl rfl (fun xq wx => ?_) ?_
  rotate_left 1
  ·(go_simp; with_reducible rfl)
  try simp only [J]
  refine dA (v := ?_) rfl rfl (fun xq wx hS => ?_) ?_
  rotate_left 1
  ·(have hc := (HCV.out.keep (St.fr hS) id).cell (i := 0) rfl; clear hS; go_simp; with_reducible rfl)
  try simp only [J]
  refine aS (v := ?_) rfl rfl (fun xq wx => ?_) ?_
  rotate_left 1
  ·(go_simp; with_reducible rfl)
  try simp only [J]
  refine aS (v := ?_) rfl rfl (fun xq wx => ?_) ?_
  rotate_left 1
  ·(go_simp; with_reducible rfl)
  try simp only [J]
  refine aS (v := ?_) rfl rfl (fun xq wx => ?_) ?_
  rotate_left 1
  ·(go_simp; with_reducible rfl)
  try simp only [J]
  refine dA (v := ?_) rfl rfl (fun xq wx hS => ?_) ?_
  rotate_left 1
  ·(have hc := (HCV.out.keep (St.fr hS) id).cell (i := 0) rfl; clear hS; go_simp; with_reducible rfl)
  try simp only [J]
  refine aD rfl rfl rfl (fun _ => rfl) (cw 4 (elN m rr)) (fun wx hS => St.rangeL hS 10 rfl 0 _ dZl) underlying66 rfl (by kernel_rfl) ?_
  try simp only [J]
  refine aS (v := ?_) rfl rfl (fun xq wx => ?_) ?_
  rotate_left 1
  ·(go_simp; with_reducible rfl)
  try simp only [J]
  refine aS (v := ?_) rfl rfl (fun xq wx => ?_) ?_
  rotate_left 1
  ·(go_simp; with_reducible rfl)
  try simp only [J]
  refine aS (v := ?_) rfl rfl (fun xq wx => ?_) ?_
  rotate_left 1
  ·(go_simp; with_reducible rfl)
  try simp only [J]
  refine dA (v := ?_) rfl rfl (fun xq wx hS => ?_) ?_
  rotate_left 1
  ·(have hc := (HCV.out.keep (St.fr hS) id).cell (i := 0) rfl; clear hS; go_simp; with_reducible rfl)
  try simp only [J]
  refine aD rfl rfl rfl (fun _ => rfl) (cw 4 (elN m v)) (fun wx hS => St.rangeL hS 13 rfl 0 _ dZl) underlying66 rfl (by kernel_rfl) ?_
  try simp only [J]
  refine aD rfl rfl rfl (fun _ => rfl) (cw 4 (elN m X)) (fun wx hS => St.rangeL hS 14 rfl 0 _ dZl) underlying66 rfl (by kernel_rfl) ?_
  try simp only [J]
  refine aS (v := ?_) rfl rfl (fun xq wx => ?_) ?_
  rotate_left 1
  ·(go_simp; with_reducible rfl)
  try simp only [J]
  refine aS (v := ?_) rfl rfl (fun xq wx => ?_) ?_
  rotate_left 1
  ·(go_simp; with_reducible rfl)
  try simp only [J]
  refine aS (v := ?_) rfl rfl (fun xq wx => ?_) ?_
  rotate_left 1
  ·(go_simp; with_reducible rfl)
  try simp only [J]
  refine dA (v := ?_) rfl rfl (fun xq wx hS => ?_) ?_
  rotate_left 1
  ·(have hc := (HCV.out.keep (St.fr hS) id).cell (i := 0) rfl; clear hS; go_simp; with_reducible rfl)
  try simp only [J]
  refine aD rfl rfl rfl (fun _ => rfl) (cw 4 (elN m s1)) (fun wx hS => St.rangeL hS 7 rfl 0 _ dZl) underlying66 rfl (by kernel_rfl) ?_
  try simp only [J]
  refine aD rfl rfl rfl (fun _ => rfl) (cw 4 (elN m h3)) (fun wx hS => St.rangeL hS 12 rfl 0 _ dZl) underlying66 rfl (by kernel_rfl) ?_
  try simp only [J]
  refine aS (v := ?_) rfl rfl (fun xq wx => ?_) ?_
  rotate_left 1
  ·(go_simp; with_reducible rfl)
  try simp only [J]
  refine aS (v := ?_) rfl rfl (fun xq wx => ?_) ?_
  rotate_left 1
  ·(go_simp; with_reducible rfl)
  try simp only [J]
  refine aS (v := ?_) rfl rfl (fun xq wx => ?_) ?_
  rotate_left 1
  ·(go_simp; with_reducible rfl)
  try simp only [J]
  refine dA (v := ?_) rfl rfl (fun xq wx hS => ?_) ?_
  rotate_left 1
  ·(have hc := (HCV.out.keep (St.fr hS) id).cell (i := 0) rfl; clear hS; go_simp; with_reducible rfl)
  try simp only [J]
  refine aD rfl rfl rfl (fun _ => rfl) (cw 4 (elN m hd)) (fun wx hS => St.rangeL hS 9 rfl 0 _ dZl) underlying66 rfl (by kernel_rfl) ?_
  try simp only [J]
  refine aS (v := ?_) rfl rfl (fun xq wx => ?_) ?_
  rotate_left 1
  ·(go_simp; with_reducible rfl)
  try simp only [J]
  refine aS (v := ?_) rfl rfl (fun xq wx => ?_) ?_
  rotate_left 1
  ·(go_simp; with_reducible rfl)
  try simp only [J]
  refine aS (v := ?_) rfl rfl (fun xq wx => ?_) ?_
  rotate_left 1
  ·(go_simp; with_reducible rfl)
  try simp only [J]
  refine dA (v := ?_) rfl rfl (fun xq wx hS => ?_) ?_
  rotate_left 1
  ·(have hc := (HCV.out.keep (St.fr hS) id).cell (i := 0) rfl; clear hS; go_simp; with_reducible rfl)
  try simp only [J]
  refine aS (v := ?_) rfl rfl (fun xq wx => ?_) ?_
  rotate_left 1
  ·(go_simp; with_reducible rfl)
  try simp only [J]
  refine aD rfl rfl rfl (fun _ => rfl) (cw 4 (elN m z1)) (fun wx hS => St.rangeL hS 0 rfl 8 _ (mR _ _ _)) underlying66 rfl (by kernel_rfl) ?_
  try simp only [J]
  refine aS (v := ?_) rfl rfl (fun xq wx => ?_) ?_
  rotate_left 1
  ·(go_simp; with_reducible rfl)
  try simp only [J]
  refine aD rfl rfl rfl (fun _ => rfl) (cw 4 (elN m z2)) (fun wx hS => St.rangeL hS 1 rfl 8 _ (mR _ _ _)) underlying66 rfl (by kernel_rfl) ?_
  try simp only [J]
  refine aC rfl rfl rfl call182 (fun w hS hR => pM m gp _ HOK.out (HPM.out.keep hS.fr id) v X t2 Ht2.out) (fun _ => rfl) ?_
  try simp only [J]
  refine aC rfl rfl rfl call152 (fun w hS hR => fO m gp _ HOK.out (HPM.out.keep hS.fr id) rr t2 t3 Ht3.out) (fun _ => rfl) ?_
  try simp only [J]
  refine aC rfl rfl rfl call152 (fun w hS hR => fO m gp _ HOK.out (HPM.out.keep hS.fr id) s1 h3 t4 Ht4.out) (fun _ => rfl) ?_
  try simp only [J]
  refine aC rfl rfl rfl call182 (fun w hS hR => pM m gp _ HOK.out (HPM.out.keep hS.fr id) t3 t4 Y HY.out) (fun _ => rfl) ?_
  try simp only [J]
  refine aC rfl rfl rfl call152 (fun w hS hR => fO m gp _ HOK.out (HPM.out.keep hS.fr id) z1 z2 zz Hzz.out) (fun _ => rfl) ?_
  try simp only [J]
  refine aC rfl rfl rfl call152 (fun w hS hR => fO m gp _ HOK.out (HPM.out.keep hS.fr id) hd zz Z HZ.out) (fun _ => rfl) ?_
  try simp only [J]
  refine aS rfl rfl (fun _ => cC rfl _ (nE _ _ _)) ?_
  try simp only [J]
  refine bB fun xq w27 st27 hR => ?_
  try dsimp only
  clear hR xq
  refine aU rfl rfl ?_
  refine aG st27 2 rfl rfl rfl rfl (by simp [aT]) (by kernel_rfl) (bX _ _ _) ?_
  intro w28 st28
  try simp only [List.set_cons_zero, List.set_cons_succ] at st28
  clear st27
  try simp only [Act.put]
  refine aH ?_
  refine NoPanic.normal ?_
  have hr := st28.at 2 rfl
  have hfr := st28.fr
  clear st28
  go_wp2_with fail
  exact bodyPost_ret (aY rfl rfl hr underlying117 rfl (by kernel_rfl)) rfl ⟨by rw [HHZ.out]; rfl, hfr⟩
end
section
open Go.RowKit Go.Mv Mvp Mvq
theorem l0s : kc 0 = 0 := by decide
theorem o0L (x1 y1 z1 x2 y2 z2 : Nat) (ho1 : onC (jN x1 y1 z1)) (ho2 : onC (jN x2 y2 z2)) :
  ∃ X Y Z, jN X Y Z = cE (jN x1 y1 z1) (jN x2 y2 z2) ∧ ∀ gc gp bx by_ wx, Has wx gc (nT mP gp bx by_) 125 → Has wx gp (mdL mP) 187 → Calls prog 159 #[.pointer (some ⟨gc, 0, none⟩), ptV mP x1 y1 z1, ptV mP x2 y2 z2] wx fun e w' => e = .returned (ptV mP X Y Z) ∧ Fr Nob wx w' := by
 cases hb1 : (z1 % mP.M == 0)
 case true =>
  have hz : kc z1 = 0 := by simpa using g0W _ iX z1 _ hb1
  refine ⟨x2, y2, z2, ?_, fun gc gp bx by_ wx hcv hpm => g0l mP gc gp bx by_ wx fR hcv hpm x1 y1 z1 x2 y2 z2 hb1⟩
  unfold jN
  rw [o0F hz]; rfl
 case false =>
  have hz1 : kc z1 ≠ 0 := by simpa using g0W _ iX z1 _ hb1
  cases hb2 : (z2 % mP.M == 0)
  case true =>
   have hz : kc z2 = 0 := by simpa using g0W _ iX z2 _ hb2
   refine ⟨x1, y1, z1, ?_, fun gc gp bx by_ wx hcv hpm => g0m mP gc gp bx by_ wx fR hcv hpm x1 y1 z1 x2 y2 z2 hb1 hb2⟩
   unfold jN
   rw [o0F hz, eF]
  case false =>
   have hz2 : kc z2 ≠ 0 := by simpa using g0W _ iX z2 _ hb2
   obtain ⟨pp, epp⟩ : ∃ q, z1 * z1 = q := ⟨_, rfl⟩
   obtain ⟨qq, eqq⟩ : ∃ q, z2 * z2 = q := ⟨_, rfl⟩
   obtain ⟨u1, eu1⟩ : ∃ q, x1 * qq = q := ⟨_, rfl⟩
   obtain ⟨u2, eu2⟩ : ∃ q, x2 * pp = q := ⟨_, rfl⟩
   obtain ⟨q3, eq3⟩ : ∃ q, qq * z2 = q := ⟨_, rfl⟩
   obtain ⟨s1, es1⟩ : ∃ q, y1 * q3 = q := ⟨_, rfl⟩
   obtain ⟨p3, ep3⟩ : ∃ q, pp * z1 = q := ⟨_, rfl⟩
   obtain ⟨s2, es2⟩ : ∃ q, y2 * p3 = q := ⟨_, rfl⟩
   obtain ⟨hd, ehd⟩ : ∃ q, u2 + (mP.M - u1 % mP.M) = q := ⟨_, rfl⟩
   obtain ⟨rr, err⟩ : ∃ q, s2 + (mP.M - s1 % mP.M) = q := ⟨_, rfl⟩
   have ku1 : kc u1 = kc x1 * (kc z2 * kc z2) := by rw [← eu1, ← eqq, bN, bN]
   have ku2 : kc u2 = kc x2 * (kc z1 * kc z1) := by rw [← eu2, ← epp, bN, bN]
   have ks1 : kc s1 = kc y1 * (kc z2 * kc z2 * kc z2) := by rw [← es1, ← eq3, ← eqq, bN, bN, bN]
   have ks2 : kc s2 = kc y2 * (kc z1 * kc z1 * kc z1) := by rw [← es2, ← ep3, ← epp, bN, bN, bN]
   have khd : kc hd = kc u2 - kc u1 := by rw [← ehd, zT _ iX]
   have krr : kc rr = kc s2 - kc s1 := by rw [← err, zT _ iX]
   obtain ⟨DX, DY, DZ, hX, hcall⟩ := b0N x1 y1 z1 ho1
   have hcal := fun gc gp bx by_ wx (hcv : Has wx gc (nT mP gp bx by_) 125) (hpm : Has wx gp (mdL mP) 187) => i0C mP gc gp bx by_ wx fR hcv hpm x1 y1 z1 x2 y2 z2 hb1 hb2 pp qq u1 u2 q3 s1 p3 s2 hd rr _ _ _ _ _ _ _ _ _ _ _ _ _ DX DY DZ epp eqq eu1 eu2 eq3 es1 ep3 es2 ehd err rfl rfl rfl rfl rfl rfl rfl rfl rfl rfl rfl rfl rfl (fun _ _ wy hf2 => hcall gc gp bx by_ wy (hcv.keep hf2 id) (hpm.keep hf2 id))
   cases hh : (hd % mP.M == 0)
   case false =>
    have hn : kc hd ≠ 0 := by simpa using g0W _ iX hd _ hh
    rw [hh] at hcal
    refine ⟨_, _, _, ?_, fun gc gp bx by_ wx hcv hpm => hcal gc gp bx by_ wx hcv hpm⟩
    have h := o0H ho1 ho2 hz1 hz2 (kc u1) (kc u2) (kc s1) (kc s2) (kc hd) (kc rr) _ _ _ _ ku1 ku2 ks1 ks2 khd krr hn rfl rfl rfl rfl
    unfold jN at *
    rw [← h]
    simp only [zT _ iX, qT, bN]
   case true =>
    have h0 : kc hd = 0 := by simpa using g0W _ iX hd _ hh
    have hs := o0I ho1 ho2 hz1 hz2 (by rw [← ku1, ← ku2, ← khd]; exact h0)
    rw [← ks1, ← ks2, ← krr] at hs
    cases hr : (rr % mP.M == 0)
    case true =>
     have hr0 : kc rr = 0 := by simpa using g0W _ iX rr _ hr
     rw [hh, hr] at hcal
     refine ⟨DX, DY, DZ, ?_, fun gc gp bx by_ wx hcv hpm => hcal gc gp bx by_ wx hcv hpm⟩
     have e := hs.1 hr0
     unfold jN at *
     rw [hX, e]
    case false =>
     have hr0 : kc rr ≠ 0 := by simpa using g0W _ iX rr _ hr
     rw [hh, hr] at hcal
     refine ⟨1, 1, 0, ?_, fun gc gp bx by_ wx hcv hpm => hcal gc gp bx by_ wx hcv hpm⟩
     have e := hs.2 hr0
     unfold jN at *
     rw [e, o0F l0s]
end
end Go.Proofs.YtemcankmggmgoaaGreat
namespace Mvq
open Mvp
structure FP (M : Nat) : Prop where
 prime : IsP M
 odd : M % 2 = 1
 big : 3 < M
theorem FP.inv {M a : Nat} (h : FP M) (ha : a < M) (h0 : a ≠ 0) : a * (a ^ (M - 2) % M) % M = 1 := by
 have hd : ¬ M ∣ a := fun hx => by have := Nat.le_of_dvd Ab hx; omega
 have hb := h.big
 rw [Nat.mul_mod_mod, Nat.mul_comm, ← Nat.pow_succ, show (M - 2).succ = M - 1 by omega]
 exact e0E h.prime hd
theorem FP.inv0 {M : Nat} (h : FP M) : 0 ^ (M - 2) % M = 0 := by
 have hb := h.big
 rw [Nat.zero_pow Ab, Nat.zero_mod]
theorem r0b {M a w : Nat} (h : IsP M) (ha : a < M) (hw : w < M) (hs : w * w % M = a * a % M) : w = a ∨ w = (M - a) % M := by
 have key : ∀ a w, a < M → w < M → a ≤ w → w * w % M = a * a % M → w = a ∨ w = (M - a) % M := by
  intro a w ha hw hle hs
  have hd : M ∣ (w - a) * (w + a) := by
   have h1 : M ∣ w * w - a * a := Nat.dvd_of_mod_eq_zero (Nat.sub_mod_eq_zero_of_mod_eq hs)
   rwa [Nat.mul_self_sub_mul_self_eq, Nat.mul_comm] at h1
  rcases h.euclid hd with h1 | h1
  ·left
   rcases Nat.eq_zero_or_pos (w - a) with h2 | h2
   ·omega
   ·have := Nat.le_of_dvd h2 h1; omega
  ·obtain ⟨c, hc⟩ := h1
   have h1 := h.1
   have hc2 : c = 0 ∨ c = 1 := by
    rcases Nat.lt_or_ge c 2 with h2 | h2
    ·omega
    ·have : M * 2 ≤ M * c := Nat.mul_le_mul_left _ h2
     omega
   rcases hc2 with rfl | rfl
   ·left; omega
   ·rcases Nat.eq_zero_or_pos a with h3 | h3
    ·subst h3; omega
    ·right; rw [Nat.mod_eq_of_lt Ab]; omega
 rcases Nat.le_total a w with h1 | h1
 ·exact key a w ha hw h1 hs
 ·rcases key w a hw ha h1 hs.symm with h2 | h2
  ·exact Or.inl h2.symm
  ·rcases Nat.eq_zero_or_pos w with h3 | h3
   ·subst h3; rw [Nat.sub_zero, Nat.mod_self] at h2; exact Or.inl h2.symm
   ·rw [Nat.mod_eq_of_lt Ab] at h2
    right
    rw [Nat.mod_eq_of_lt Ab]; omega
theorem i0D {M a : Nat} (h : FP M) (h4 : M % 4 = 3) (_ : a < M) : dW M (a * a % M) = true := by
 unfold dW rtN
 rw [beq_iff_eq]
 have hb := h.big
 generalize hk : M / 4 + 1 = k
 have h2 : 4 * k = M + 1 := by omega
 rw [Nat.mul_mod ((a * a % M) ^ k), ← Nat.pow_mod, ← Nat.mul_mod, ← Nat.pow_two a, ← Nat.pow_mul, ← Nat.pow_add, show 2 * k + 2 * k = M + 1 by omega, Nat.mod_mod]
 rw [Nat.pow_succ, Nat.mul_mod, c0Z h.prime, ← Nat.mul_mod, Nat.pow_two]
theorem b0P {M x : Nat} (h : FP M) : rtV M x % M % 2 = 0 := by
 unfold rtV
 have hb := h.big
 have ho := h.odd
 have hl : rtN M x % M < M := Nat.mod_lt _ Ab
 generalize hr : rtN M x % M = r at *
 split
 ·rename_i h1
  rw [Nat.mod_eq_of_lt (show M - r < M by omega)]; omega
 ·rw [hr]; omega
theorem d0g {M x : Nat} (h : FP M) (hx : x < M) (hr : dW M x = true) : (rtV M x % M) * (rtV M x % M) % M = x := by
 unfold dW at hr
 rw [beq_iff_eq, Nat.mul_mod, Nat.mod_eq_of_lt hx] at hr
 unfold rtV
 have hb := h.big
 have hl : rtN M x % M < M := Nat.mod_lt _ Ab
 generalize hq : rtN M x % M = r at *
 split
 ·rename_i h1
  rw [Nat.mod_eq_of_lt (show M - r < M by omega)]
  have e : (M - r) * (M - r) + M * (2 * r) = r * r + M * M := by
   obtain ⟨d, rfl⟩ : ∃ d, M = r + d := ⟨M - r, by omega⟩
   rw [Nat.add_sub_cancel_left]
   clear hb hl hq hr hx h
   grind
  have e2 : ((M - r) * (M - r) + M * (2 * r)) % M = (r * r + M * M) % M := by rw [e]
  rw [Nat.add_mul_mod_self_left, Nat.add_mul_mod_self_left, hr] at e2
  exact e2
 ·rw [hq, hr]
theorem s0K : FP pP := ⟨by rw [show pP = 115792089237316195423570985008687907853269984665640564039457584007908834671663 by decide]; exact m0Y, by decide, by decide⟩
theorem t0m : FP pQ := ⟨by rw [show pQ = 115792089237316195423570985008687907852837564279074904382605163141518161494337 by decide]; exact q0O, by decide, by decide⟩
end Mvq
namespace Mvq
open Mvp
def cK : Pt → List UInt8
 | .O => List.replicate 33 0
 | .A x y => UInt8.ofNat (2 + y.val % 2) :: cI x.val
theorem eI (p : Pt) : (cK p).length = 33 := by
 cases p
 ·simp [cK]
 ·simp [cK, eH]
def tlN (l : List UInt8) : Nat := beN (l.drop 1)
def lN (n : Nat) : Nat := n * n * n + 7
def dM (l : List UInt8) : Bool :=
 decide (l.length = 33) && (if l.getD 0 0 = 0 then tlN l == 0 else decide (l.getD 0 0 = 2 ∨ l.getD 0 0 = 3) && (decide (tlN l < fP) && dW fP (lN (tlN l))))
def fD (l : List UInt8) : Pt :=
 if l.getD 0 0 = 0 then .O else .A (kc (tlN l)) (if l.getD 0 0 = 3 then - kc (rtV fP (lN (tlN l))) else kc (rtV fP (lN (tlN l))))
theorem l0t {a x : Nat} (h : (a * a % fP == x % fP) = true) : kc a * kc a = kc x := by
 rw [r0a] at h
 rw [← bN]; simpa using h
theorem n0d {x : Nat} (h : dW fP x = true) : kc (rtV fP x) * kc (rtV fP x) = kc x := by
 unfold dW at h
 have h1 := l0t h
 unfold rtV
 split
 ·rw [d0f, ← h1]; grind -lia -linarith
 ·exact h1
theorem d0h (n : Nat) : kc (lN n) = kc n * kc n * kc n + 7 := by
 unfold lN
 rw [qT, bN, bN, show kc 7 = 7 by decide]
theorem r0c {n : Nat} (h : dW fP (lN n) = true) : onC (.A (kc n) (kc (rtV fP (lN n)))) := by
 show kc (rtV fP (lN n)) * kc (rtV fP (lN n)) = kc n * kc n * kc n + 7
 rw [n0d h, d0h]
theorem qU {l : List UInt8} (h : dM l = true) : onC (fD l) := by
 unfold dM at h
 unfold fD
 by_cases h0 : l.getD 0 0 = 0
 ·rw [if_pos h0]; trivial
 ·rw [if_neg h0]
  simp only [Bool.and_eq_true, decide_eq_true_eq, if_neg h0] at h
  obtain ⟨-, -, -, h4⟩ := h
  have := r0c h4
  by_cases h3 : l.getD 0 0 = 3
  ·rw [if_pos h3]; exact dZ this
  ·rw [if_neg h3]; exact this
theorem nF (n : Nat) : (kc n).val = n % fP := by simp [kc, Fin.ofNat]
theorem l0u (n : Nat) (h : n < fP) : beN (cI n) = n := by
 have h2 : fP < 256 ^ 32 := by decide
 exact e0m n (Nat.lt_trans h h2)
theorem uV (y : K) (h : y ≠ 0) : (-y).val % 2 = (1 + y.val) % 2 := by
 have h0 : y.val ≠ 0 := fun e => h (Fin.ext e)
 have h1 : (-y).val = fP - y.val := by
  rw [Fin.val_neg]
  have hne : ¬ y = 0 := h
  simp [hne]
 have h2 : fP % 2 = 1 := by decide
 have h3 := y.isLt
 omega
theorem i0E {a b : K} (h : a * a = b * b) : a = b ∨ a = -b := by
 have : (a - b) * (a + b) = 0 := by grind -lia -linarith
 rcases bE this with e | e
 ·left; grind -lia -linarith
 ·right; grind -lia -linarith
theorem b0Q {p : Pt} (h : onC p) : dM (cK p) = true ∧ fD (cK p) = p := by
 cases p with
 | O =>
  have : (cK .O) = List.replicate 33 0 := rfl
  rw [this]
  constructor
  ·decide
  ·unfold fD; rw [if_pos Ac]
 | A x y =>
  have hc : y * y = x * x * x + 7 := h
  have hy := k0f hc
  have e0 : (cK (.A x y)).getD 0 0 = UInt8.ofNat (2 + y.val % 2) := rfl
  have e1 : tlN (cK (.A x y)) = x.val := by
   show beN (cI x.val) = x.val
   exact l0u _ x.isLt
  have hl := eI (.A x y)
  have hk : kc (lN x.val) = y * y := by rw [d0h, xJ, hc]
  have hr : dW fP (lN x.val) = true := by
   have hh := i0D (M := fP) (a := y.val) (by have := s0K; rwa [i0z] at this) Ac y.isLt
   have e : kc (lN x.val) = kc (y.val * y.val % fP) := by rw [kV, bN, xJ, hk]
   have e2 : lN x.val % fP = y.val * y.val % fP % fP := by
    have := r0a (lN x.val) (y.val * y.val % fP)
    rw [e] at this
    simpa using this
   unfold dW rtN at *
   rw [Nat.mul_mod, Nat.pow_mod, e2, ← Nat.pow_mod, ← Nat.mul_mod]
   simpa using hh
  have hev : (kc (rtV fP (lN x.val))).val % 2 = 0 := by
   rw [nF]
   exact b0P (by have := s0K; rwa [i0z] at this)
  have hv := n0d hr
  rw [hk] at hv
  generalize hz : kc (rtV fP (lN x.val)) = z at *
  unfold dM fD
  rw [hl, e1, e0, hr, hz]
  have hx := x.isLt
  have hcase : y.val % 2 = 0 ∨ y.val % 2 = 1 := by omega
  have hzy : z = (if y.val % 2 = 0 then y else -y) := by
   rcases i0E hv with e | e
   ·subst e; rw [if_pos hev]
   ·have hp := uV y hy
    rw [← e] at hp
    rw [if_neg Ab]; exact e
  have hlt : decide (x.val < fP) = true := decide_eq_true hx
  rcases hcase with e | e
  ·have hb : UInt8.ofNat (2 + y.val % 2) = 2 := by rw [e]; rfl
   rw [if_pos e] at hzy
   rw [hb, hzy, hlt]
   refine ⟨?_, ?_⟩
   ·rw [if_neg Ac]; decide
   ·rw [if_neg Ac, if_neg Ac, xJ]
  ·have hb : UInt8.ofNat (2 + y.val % 2) = 3 := by rw [e]; rfl
   rw [if_neg Ab] at hzy
   rw [hb, hzy, hlt]
   refine ⟨?_, ?_⟩
   ·rw [if_neg Ac]; decide
   ·have hn : - -y = y := by grind -lia -linarith
    rw [if_neg Ac, if_pos rfl, xJ, hn]
end Mvq
namespace Go.Proofs.YtemcankmggmgoaaGreat
open Go.RowKit Go.Mv Mvp Mvq
def gXn : Nat := 0x79BE667EF9DCBBAC55A06295CE870B07029BFCDB2DCE28D959F2815B16F81798
def gYn : Nat := 0x483ADA7726A3C4655DA4FBFC0E1108A8FD17B448A68554199C47D08FFB10D4B8
structure PT where
 x : Nat
 y : Nat
 z : Nat
 on : onC (jN x y z)
def PT.pt (s : PT) : Pt := jN s.x s.y s.z
def PT.L (s : PT) : List Value := ptL mP s.x s.y s.z
theorem PT.len (s : PT) : s.L.length = 12 := lJ _ _ _ _
theorem PT.one (s : PT) : ∀ v ∈ s.L, v.oneCell' = true := bX _ _ _
theorem PT.onP (s : PT) : onC s.pt := s.on
def Cv (w : World) (gc : Nat) : Prop := ∃ gp, Has w gc (nT mP gp gXn gYn) 125 ∧ Has w gp (mdL mP) 187
theorem Cv.keep {w w' : World} {gc : Nat} (h : Cv w gc) (hf : Fr Nob w w') : Cv w' gc := by
 obtain ⟨gp, h1, h2⟩ := h
 exact ⟨gp, h1.keep hf id, h2.keep hf id⟩
theorem d0i (s : PT) : ∃ t : PT, t.pt = cE s.pt s.pt ∧ ∀ gc wx, Cv wx gc → Calls prog 158 #[.pointer (some ⟨gc, 0, none⟩), (.agg s.L.toArray)] wx fun e w' => e = .returned (.agg t.L.toArray) ∧ Fr Nob wx w' := by
 obtain ⟨X, Y, Z, h1, h2⟩ := b0N s.x s.y s.z s.on
 refine ⟨⟨X, Y, Z, by rw [h1]; exact eL s.on s.on⟩, h1, ?_⟩
 rintro gc wx ⟨gp, a, b⟩
 exact h2 gc gp gXn gYn wx a b
theorem d0j (s t : PT) : ∃ r : PT, r.pt = cE s.pt t.pt ∧ ∀ gc wx, Cv wx gc → Calls prog 159 #[.pointer (some ⟨gc, 0, none⟩), (.agg s.L.toArray), (.agg t.L.toArray)] wx fun e w' => e = .returned (.agg r.L.toArray) ∧ Fr Nob wx w' := by
 obtain ⟨X, Y, Z, h1, h2⟩ := o0L s.x s.y s.z t.x t.y t.z s.on t.on
 refine ⟨⟨X, Y, Z, by rw [h1]; exact eL s.on t.on⟩, h1, ?_⟩
 rintro gc wx ⟨gp, a, b⟩
 exact h2 gc gp gXn gYn wx a b
noncomputable def zU (s : PT) : PT := Classical.choose (d0i s)
noncomputable def a0A (s t : PT) : PT := Classical.choose (d0j s t)
theorem zV (s : PT) : (zU s).pt = cE s.pt s.pt := (Classical.choose_spec (d0i s)).1
theorem i0F (s t : PT) : (a0A s t).pt = cE s.pt t.pt := (Classical.choose_spec (d0j s t)).1
theorem l0v (s : PT) (gc : Nat) (w : World) (h : Cv w gc) : Calls prog 158 #[.pointer (some ⟨gc, 0, none⟩), (.agg s.L.toArray)] w fun e w' => e = .returned (.agg (zU s).L.toArray) ∧ Fr Nob w w' :=
 (Classical.choose_spec (d0i s)).2 gc w h
theorem n0e (s t : PT) (gc : Nat) (w : World) (h : Cv w gc) : Calls prog 159 #[.pointer (some ⟨gc, 0, none⟩), (.agg s.L.toArray), (.agg t.L.toArray)] w fun e w' => e = .returned (.agg (a0A s t).L.toArray) ∧ Fr Nob w w' :=
 (Classical.choose_spec (d0j s t)).2 gc w h
theorem i0G : kc 1 = 1 := by decide
def noT : PT := ⟨1, 1, 0, by unfold jN; rw [o0F Ac]; trivial⟩
theorem i0H : noT.pt = .O := by show jN 1 1 0 = .O; unfold jN; rw [o0F Ac]
theorem b0R (gc : Nat) (w : World) (h : Cv w gc) : Calls prog 157 #[.pointer (some ⟨gc, 0, none⟩)] w fun e w' => e = .returned (.agg noT.L.toArray) ∧ Fr Nob w w' := by
 obtain ⟨gp, a, b⟩ := h
 exact uU mP gc gp gXn gYn w fR a b
theorem n0f (x y : Nat) : jN x y 1 = .A (kc x) (kc y) := by
 unfold jN
 refine o0G Ac ?_ ?_
 ·rw [i0G]; grind -lia -linarith
 ·rw [i0G]; grind -lia -linarith
def i0I (x y : Nat) (h : onC (.A (kc x) (kc y))) : PT := ⟨x, y, 1, by rw [n0f]; exact h⟩
theorem d0k (x y : Nat) (h : onC (.A (kc x) (kc y))) : (i0I x y h).pt = .A (kc x) (kc y) := n0f x y
theorem zW : onC (.A (kc gXn) (kc gYn)) := by
 show kc gYn * kc gYn = kc gXn * kc gXn * kc gXn + 7
 decide
def zX : PT := i0I gXn gYn zW
theorem l0w : zX.pt = .A (kc gXn) (kc gYn) := d0k _ _ _
def PT.isO (s : PT) : Bool := s.z % mP.M == 0
theorem PT.isO_t {s : PT} (h : s.isO = true) : s.pt = .O := by
 have hz : kc s.z = 0 := by simpa using g0W _ iX s.z _ h
 exact o0F hz
theorem PT.isO_f {s : PT} (h : s.isO = false) : kc s.z ≠ 0 := by simpa using g0W _ iX s.z _ h
end Go.Proofs.YtemcankmggmgoaaGreat
namespace Go.Mv
open Go.RowKit
section
variable {P : Program} {w w0 : World} {ops : Array Oper} {rest : List Oper} {o : Oper} {a : Act} {Q : Exit → Act → World → Prop} {S : Nat → Prop} {bl : List (Nat × List Value × TypeId)} {K : Act → World → Prop}
theorem pT (hst : St S w0 w bl) (i : Nat) {g : Nat} {L : List Value} {T : TypeId} (hb : bl[i]? = some (g, L, T)) {ty : TypeId} {x y : Operand} (hgd : o.guard = none) (ho : o.op = .store ty x y) {p : Nat} (hx : a.eval x = .pointer (some ⟨g, p, none⟩)) {cs : List Value} (hy : a.eval y = .agg cs.toArray)
  (L' : List Value) (hL : splice L p cs = L') (hn : p + cs.length ≤ L.length) (hi : (P.info? ty).map (·.size) = some cs.length) (h1 : ∀ v ∈ cs, v.oneCell' = true)
  (h : ∀ w', St S w0 w' (bl.set i (g, L', T)) → wpList P ops Q rest (a.put o.dst undef) w') : wpList P ops Q (o :: rest) a w :=
 iE hgd ho hx hy (hst.at i hb) hn hi h1 fun w' hg hf _ => h w' (hst.put i hb hf (by rwa [hL] at hg))
theorem uW (hst : St S w0 w bl) (i : Nat) {g : Nat} {L : List Value} {T : TypeId} (hb : bl[i]? = some (g, L, T)) {ty : TypeId} {x y : Operand} (ho : o.op = .store ty x y) {p : Nat} (hx : a.eval x = .pointer (some ⟨g, p, none⟩)) {cs : List Value} (hy : a.eval y = .agg cs.toArray)
  (L' : List Value) (hL : splice L p cs = L') (hn : p + cs.length ≤ L.length) (hi : (P.info? ty).map (·.size) = some cs.length) (h1 : ∀ v ∈ cs, v.oneCell' = true)
  (h : ∀ w', St S w0 w' (bl.set i (g, L', T)) → K (a.put o.dst undef) w') : o.wp P a w K Q := by
 obtain ⟨k1, k2, _⟩ := Has.setCells cs p L w (hst.at i hb) hn
 rw [hL] at k1
 exact wp_store_mid ty x y ho g p cs.toArray hx hy (by simpa using (hst.at i hb).there p cs.length hn) (by simpa using hi) (all_oneCell_toArray h1) (by simpa using h _ (hst.put i hb k2 k1))
theorem xN (A B C : List Value) (n : Nat) (hA : A.length = n) (hC : C.length = B.length) : splice (A ++ B) n C = A ++ C := by
 unfold splice
 subst hA
 rw [List.take_left, List.drop_append, List.drop_of_length_le Ab, List.drop_of_length_le Ab]
 simp
theorem xO (A B D C : List Value) (n : Nat) (hA : A.length = n) (hC : C.length = B.length) : splice (A ++ (B ++ D)) n C = A ++ (C ++ D) := by
 unfold splice
 subst hA
 rw [List.take_left, List.drop_append, List.drop_of_length_le Ab, List.nil_append, show A.length + C.length - A.length = B.length by omega, List.drop_left]
end
end Go.Mv
namespace Go.Proofs.YtemcankmggmgoaaGreat
open Go.RowKit Go.Mv Mvp Mvq
theorem OfI (m : Md) (hk : KindOf 0 m) (w : World) : Calls prog 146 #[.int .i64 0] w fun e w' => ∃ g, e = .returned (.tuple #[.pointer (some ⟨g, 0, none⟩), .bool true]) ∧ w.heap.size ≤ g ∧ Has w' g (mdL m) 187 ∧ Fr Nob w w' := by
 cases hk
 go_enter func146, ntmps146
 go_wp2
 go_ret2
 exact ⟨_, rfl, Nat.le_refl _, by rw [← e0w]; exact Has.new w _ _, (Fr.refl Nob w).alloc _⟩
theorem l0x : prog.built 111 [(0, .int .u64 6481385041966929816), (1, .int .u64 188021827762530521), (2, .int .u64 6170039885052185351), (3, .int .u64 8772561819708210092)] = some (cw 4 gXn).toArray := by kernel_rfl
theorem l0y : prog.built 111 [(0, .int .u64 11261198710074299576), (1, .int .u64 18237243440184513561), (2, .int .u64 6747795201694173352), (3, .int .u64 5204712524664259685)] = some (cw 4 gYn).toArray := by kernel_rfl
theorem s0L : gXn < B64 ^ 4 := by decide
theorem s0M : gYn < B64 ^ 4 := by decide
theorem i0J (p : Option Addr) (a : Nat) : prog.built 125 [(0, .pointer p), (1, i4 a)] = some ([Value.pointer p] ++ (cw 4 a ++ (cw 4 0 ++ (cw 4 0 ++ cw 4 0)))).toArray := by kernel_rfl
theorem g0n (p : Value) (a b c d : Nat) : splice ([p] ++ (cw 4 a ++ (cw 4 0 ++ (cw 4 0 ++ cw 4 0)))) 5 (cw 4 b ++ (cw 4 c ++ cw 4 d)) = [p] ++ (cw 4 a ++ (cw 4 b ++ (cw 4 c ++ cw 4 d))) := by
 have h := xN ([p] ++ cw 4 a) (cw 4 0 ++ (cw 4 0 ++ cw 4 0)) (cw 4 b ++ (cw 4 c ++ cw 4 d)) 5 (by rw [List.length_append, aT]; rfl) Ah
 rw [List.append_assoc, List.append_assoc] at h
 exact h
theorem o0M (p : Value) (a b c d : Nat) : ([p] ++ (cw 4 a ++ (cw 4 b ++ (cw 4 c ++ cw 4 d)))).length = 17 := by simp only [List.length_append, aT]; rfl
attribute [local irreducible] bI lw mix cw cT dG cS bQ aO beN dO cI dI bM bT elN mdL cL rtN rtV dW gXn gYn
theorem l0z (m : Md) (hk : KindOf 0 m) (w : World) :
  Calls prog 86 #[] w fun e w' => ∃ gc, e = .returned (.pointer (some ⟨gc, 0, none⟩)) ∧ w.heap.size ≤ gc ∧ (∃ gp, Has w' gc (nT m gp gXn gYn) 125 ∧ Has w' gp (mdL m) 187) ∧ Fr Nob w w' := by
 have HK := qH hk
 have HOK := qH hk.ok
 have HGX := qH s0L
 have HGY := qH s0M
 clear hk
 have st0 := St.start Nob w
 go_enter func86, ntmps86
 go_wp2_with fail
 refine (OfI m HK.out _).mono ?_
 rintro e' w1 ⟨gp, rfl, hle, hm, hf1⟩
 have st1 : St Nob w w1 [(gp, mdL m, 187)] := st0.new hf1 hm hle
 clear st0 hf1 hm hle
 go_wp2_with fail
 refine (g0e m gp _ HOK.out (st1.at 0 rfl) 7 Ac).mono ?_
 rintro e' w2 ⟨rfl, hf2⟩
 have st2 := st1.keep hf2
 clear st1 hf2
 go_wp2_with (with_reducible refine AA 13 ?_)
 refine cD rfl rfl _ (i0J _ _) ?_
 go_wp2_with (with_reducible refine AA 14 ?_)
 refine aL st2 rfl rfl rfl ([Value.pointer (some ⟨gp, 0, none⟩)] ++ (cw 4 (elN m 7) ++ (cw 4 0 ++ (cw 4 0 ++ cw 4 0)))) rfl ?_
 intro gc w3 st3
 clear st2
 go_wp2_with (with_reducible refine AA 16 ?_)
 refine cD rfl rfl _ l0x ?_
 go_wp2_with fail
 refine (kF m gp _ HOK.out (st3.at 0 rfl) gXn HGX.out).mono ?_
 rintro e' w4 ⟨rfl, hf4⟩
 have st4 := st3.keep hf4
 clear st3 hf4
 go_wp2_with (with_reducible refine AA 19 ?_)
 refine cD rfl rfl _ l0y ?_
 go_wp2_with fail
 refine (kF m gp _ HOK.out (st4.at 0 rfl) gYn HGY.out).mono ?_
 rintro e' w5 ⟨rfl, hf5⟩
 have st5 := st4.keep hf5
 clear st4 hf5
 go_wp2_with (with_reducible refine AA 4 ?_)
 refine aA st5 rfl rfl (z := zAd) Aa (cw 4 0) Af ?_
 intro g4 w6 st6
 clear st5
 go_wp2_with (with_reducible refine AA 5 ?_)
 refine aA st6 rfl rfl (z := zAd) Aa (cw 4 0) Af ?_
 intro g5 w7 st7
 clear st6
 go_wp2_with (with_reducible refine AB ?_)
 refine aB st7 2 rfl rfl rfl rfl rfl Ah Ad (aF _ _) ?_
 intro w8 st8
 clear st7
 go_wp2_with (with_reducible refine AB ?_)
 refine aB st8 3 rfl rfl rfl rfl rfl Ah Ad (aF _ _) ?_
 intro w9 st9
 clear st8
 go_wp2_with fail
 refine wp_region_noPanic ?_
 refine aP (fun wx => St Nob w wx [(gp, mdL m, 187), (gc, [Value.pointer (some ⟨gp, 0, none⟩)] ++ (cw 4 (elN m 7) ++ (cw 4 0 ++ (cw 4 0 ++ cw 4 0))), 125), (g4, cw 4 (elN m gXn), 66), (g5, cw 4 (elN m gYn), 66)]) 11 (.w 0 (.t 1 (.t 2 (.w 3 (.w 4 (.w 5 (.t 6 (.r 7 (.w 8 (.w 9 (.w 10 (.m 11 .nil)))))))))))) Aa Aa st9.drew (fun _ _ _ _ _ h => h) ?_
 have hd9 := st9.drew
 clear st9
 refine aJ rfl rfl apW ?_
 try simp only [J]
 refine aV rfl rfl rfl rfl (cw 4 (elN m gXn)) (fun wx hS => St.rangeL hS 2 rfl 0 _ dZl) underlying66 rfl Ad ?_
 try simp only [J]
 refine aV rfl rfl rfl rfl (cw 4 (elN m gYn)) (fun wx hS => St.rangeL hS 3 rfl 0 _ dZl) underlying66 rfl Ad ?_
 try simp only [J]
 refine aJ rfl rfl apW ?_
 try simp only [J]
 refine aJ rfl rfl apW ?_
 try simp only [J]
 refine aJ rfl rfl apW ?_
 try simp only [J]
 refine jY (v := ?_) rfl rfl (fun wx hS => ?_) ?_
 rotate_left 1
 ·(have hc := (St.at hS 1 rfl).cell (i := 0) rfl; clear hS; go_simp; with_reducible rfl)
 try simp only [J]
 refine bC rfl rfl ?_
 go_simp
 refine (lI m gp _ HOK.out (hd9.at 0 rfl)).mono ?_
 rintro e' w10 ⟨rfl, hf10⟩
 have st10 := hd9.keep hf10
 clear hf10
 clear hd9
 refine ⟨st10, ?_⟩
 try simp only [J]
 refine aJ rfl rfl (cC rfl _ (nE _ _ _)) ?_
 try simp only [J]
 refine aJ rfl rfl apW ?_
 try simp only [J]
 refine aJ rfl rfl apW ?_
 try simp only [J]
 refine aU rfl rfl ?_
 refine uW st10 1 rfl rfl rfl rfl _ (g0n _ _ _ _ _) (by rw [o0M]; simp only [List.length_append, aT]; decide) Ad (bX _ _ _) ?_
 intro w11 st11
 have st11 : St Nob w w11 [(gp, mdL m, 187), (gc, [Value.pointer (some ⟨gp, 0, none⟩)] ++ (cw 4 (elN m 7) ++ (cw 4 (elN m gXn) ++ (cw 4 (elN m gYn) ++ cw 4 (elN m 1)))), 125), (g4, cw 4 (elN m gXn), 66), (g5, cw 4 (elN m gYn), 66)] := st11
 clear st10
 try simp only [Act.put]
 refine aH ?_
 refine NoPanic.normal ?_
 have hown := st11.own _ (List.mem_of_getElem? (i := 1) rfl)
 have hc := st11.at 1 rfl
 have hm := st11.at 0 rfl
 have hfr := st11.fr
 clear st11
 have hge := hown.resolve_right (fun h => h)
 clear hown
 have HGE := qH hge
 clear hge
 go_wp2_with fail
 go_ret
 exact ⟨gc, rfl, HGE.out, ⟨gp, hc, hm⟩, hfr⟩
theorem kB (w : World) : Calls prog 86 #[] w fun e w' => ∃ gc, e = .returned (.pointer (some ⟨gc, 0, none⟩)) ∧ w.heap.size ≤ gc ∧ Cv w' gc ∧ Fr Nob w w' := l0z mP .zero w
end Go.Proofs.YtemcankmggmgoaaGreat
namespace Go.Mv
open Go.RowKit
theorem iY (f : Nat → List Value) (k : Nat) (hl : ∀ i, (f i).length = k) : ∀ n, ((List.range n).flatMap f).length = k * n
 | 0 => by simp
 | n + 1 => by rw [List.range_succ, List.flatMap_append, List.length_append, iY f k hl n]; simp [hl, Nat.mul_succ]
theorem nG (f : Nat → List Value) (n i : Nat) (h : i < n) : (List.range n).flatMap f = (List.range i).flatMap f ++ (f i ++ (List.range' (i + 1) (n - i - 1)).flatMap f) := by
 have e : List.range n = List.range i ++ i :: List.range' (i + 1) (n - i - 1) := by
  rw [List.range_eq_range', List.range_eq_range']
  have h1 : n = i + (n - i - 1 + 1) := by omega
  conv => lhs; rw [h1]
  rw [← List.range'_append_1, List.range'_succ]
  simp
 rw [e]; simp
theorem e0I (f : Nat → List Value) (k : Nat) (hl : ∀ i, (f i).length = k) (n i : Nat) (h : i < n) : (((List.range n).flatMap f).drop (i * k)).take (f i).length = f i := by
 rw [nG f n i h, List.drop_append_of_le_length (by rw [iY f k hl, Nat.mul_comm]; omega), List.drop_of_length_le (by rw [iY f k hl, Nat.mul_comm]; omega), List.nil_append, List.take_left]
theorem e0J (f f' : Nat → List Value) (k : Nat) (hl : ∀ i, (f i).length = k) (n i : Nat) (h : i < n) (hi : (f' i).length = k) (hv : ∀ j, j ≠ i → f' j = f j) : splice ((List.range n).flatMap f) (i * k) (f' i) = (List.range n).flatMap f' := by
 rw [nG f n i h, nG f' n i h]
 have e1 : (List.range i).flatMap f' = (List.range i).flatMap f := by
  rw [List.flatMap_def, List.flatMap_def]
  congr 1
  exact List.map_congr_left fun j hj => hv j (by have := List.mem_range.1 hj; omega)
 have e2 : (List.range' (i + 1) (n - i - 1)).flatMap f' = (List.range' (i + 1) (n - i - 1)).flatMap f := by
  rw [List.flatMap_def, List.flatMap_def]
  congr 1
  exact List.map_congr_left fun j hj => hv j (by have := List.mem_range'_1.1 hj; omega)
 rw [e1, e2]
 exact xO _ _ _ _ _ (by rw [iY f k hl, Nat.mul_comm]) (by rw [hi, hl])
end Go.Mv
namespace Go.Proofs.YtemcankmggmgoaaGreat
open Go.RowKit Go.Mv Mvp Mvq
noncomputable def nK (s : PT) : Nat → PT
 | 0 => noT
 | i + 1 => a0A (nK s i) s
theorem i0K (s : PT) : ∀ i, (nK s i).pt = bV i s.pt
 | 0 => i0H
 | i + 1 => by
  show (a0A (nK s i) s).pt = cE (bV i s.pt) s.pt
  rw [i0F, i0K s i]
theorem r0d (s : PT) (k gc : Nat) (w : World) (h : Cv w gc) : Calls prog 159 #[.pointer (some ⟨gc, 0, none⟩), (.agg (nK s k).L.toArray), (.agg s.L.toArray)] w fun e w' => e = .returned (.agg (nK s (k + 1)).L.toArray) ∧ Fr Nob w w' := n0e (nK s k) s gc w h
noncomputable def tbR (s : PT) (j i : Nat) : List Value := if i < j then (nK s i).L else cw 12 0
noncomputable def tbL (s : PT) (j : Nat) : List Value := (List.range 16).flatMap (tbR s j)
theorem zY (s : PT) (j i : Nat) : (tbR s j i).length = 12 := by
 unfold tbR; split
 ·exact PT.len _
 ·exact aT _ _
theorem gX (s : PT) (j : Nat) : (tbL s j).length = 192 := iY _ 12 (zY s j) 16
theorem i0L (s : PT) (j : Nat) : ∀ v ∈ tbL s j, v.oneCell' = true := by
 intro v hv
 unfold tbL at hv
 obtain ⟨i, -, hi⟩ := List.mem_flatMap.1 hv
 unfold tbR at hi
 split at hi
 ·exact PT.one _ v hi
 ·exact aF _ _ v hi
theorem l0A (s : PT) : (Value.agg (List.replicate 192 (Value.int .u64 0)).toArray).cells.toList = tbL s 0 := by
 unfold tbL tbR
 simp only [Nat.not_lt_zero, if_false, mG]
 rfl
theorem i0M (s : PT) (j : Nat) (h : j < 16) : splice (tbL s j) (j * 12) (nK s j).L = tbL s (j + 1) := by
 have h0 := e0J (tbR s j) (tbR s (j + 1)) 12 (zY s j) 16 j h (zY s _ _) (fun i hi => by unfold tbR; by_cases hc : i < j; rw [if_pos hc, if_pos Ab]; rw [if_neg hc, if_neg Ab])
 have e : tbR s (j + 1) j = (nK s j).L := by unfold tbR; rw [if_pos Ab]
 rw [e] at h0
 exact h0
theorem l0B (s : PT) : splice (tbL s 0) 0 noT.L = tbL s (0 + 1) := i0M s 0 Ab
theorem i0N (s : PT) (j i : Nat) (h : i < j) (hj : j ≤ 16) : ((tbL s j).drop (i * 12)).take (nK s i).L.length = (nK s i).L := by
 have h0 := e0I (tbR s j) 12 (zY s j) 16 i Ab
 have e : tbR s j i = (nK s i).L := by unfold tbR; rw [if_pos h]
 rw [e] at h0
 exact h0
theorem l0C : (prog.info? 143).map (·.zero) = some (some (.agg (List.replicate 192 (.int .u64 0)).toArray)) := by kernel_rfl
attribute [local irreducible] bI lw mix cw cT dG cS bQ aO beN dO cI dI bM bT elN mdL cL rtN rtV dW gXn gYn PT.L a0A zU nK tbL
theorem _root_.Bw {p : Prop} (h : p := by first | (rw [aT]; kernel_rfl) | (simp only [gX]; kernel_rfl)) : p := h
theorem _root_.Am {p : Prop} (h : p := by first | (rw [aT]; kernel_rfl) | (simp only [PT.len]; kernel_rfl)) : p := h
theorem uX (s : PT) (gc : Nat) (w : World) (h : Cv w gc) :
  Calls prog 99 #[.pointer (some ⟨gc, 0, none⟩), .agg s.L.toArray] w fun e w' => e = .returned (.agg (tbL s 16).toArray) ∧ Fr Nob w w' := by
 have HCV := qH h
 clear h
 have st0 := St.start Nob w
 go_enter func99, ntmps99
 go_wp2_with (with_reducible refine AA 3 ?_)
 refine aL st0 rfl rfl rfl (s.L) rfl ?_
 intro g3 w1 st1
 clear st0
 go_wp2_with (with_reducible refine AA 4 ?_)
 refine aA st1 rfl rfl l0C (tbL s 0) (l0A s) ?_
 intro g4 w2 st2
 clear st1
 go_wp2_with fail
 refine (b0R gc _ (HCV.out.keep st2.fr)).mono ?_
 rintro e' w3 ⟨rfl, hf3⟩
 have st3 := st2.keep hf3
 clear st2 hf3
 go_wp2_with (with_reducible refine AB ?_)
 refine pT st3 1 rfl rfl rfl rfl rfl (tbL s (0 + 1)) (l0B s) (by rw [gX, PT.len]; omega) Am (PT.one _) ?_
 intro w4 st4
 have st4 : St Nob w w4 [(g3, s.L, 117), (g4, tbL s (0 + 1), 143)] := st4
 clear st3
 go_wp2
 go_loopw [5] (fun i wr => ∃ k : Nat, k ≤ 15 ∧ i = .int .i64 ((k : Int) + 1) ∧ St Nob w wr [(g3, s.L, 117), (g4, tbL s (k + 1), 143)]) (fun i _ => (16 - intOf i).toNat)
 case atStart => exact ⟨0, by omega, rfl, st4⟩
 case round =>
  obtain ⟨k, hk, rfl, st⟩ := hrel
  clear st4
  rcases Nat.lt_or_ge k 15 with hk2 | hk2
  ·have hc : ((k : Int) + 1 < 16) := by omega
   have hlt : (k : Int) + 1 < 9223372036854775808 := by omega
   have hl2 : (k : Int) < 9223372036854775808 := by omega
   have hl3 : (k : Int) < 16 := by omega
   have hl4 : IntKind.i64.wrap (k : Int) = (k : Int) := IntWalk.i64_in _ Ab
   have hl5 : (0 : Int) ≤ (k : Int) := by omega
   have hl6 : (0 : Int) ≤ (k : Int) + 1 := by omega
   go_wp2_with fail
   refine wp_region_noPanic ?_
   refine aP (fun wx => St Nob w wx [(g3, s.L, 117), (g4, tbL s (k + 1), 143)]) 9 (.w 0 (.w 1 (.w 2 (.w 3 (.w 4 (.t 5 (.t 6 (.r 7 (.w 8 (.m 9 .nil)))))))))) Aa Aa st.drew (fun _ _ _ _ _ h => h) ?_
   have hd4 := st.drew
   clear st
   refine aJ rfl rfl apW ?_
   try simp only [J]
   refine aJ rfl rfl apW ?_
   try simp only [J]
   refine aJ rfl rfl apW ?_
   try simp only [J]
   refine aJ rfl rfl apW ?_
   try simp only [J]
   refine aJ rfl rfl apW ?_
   try simp only [J]
   refine aV rfl rfl rfl rfl ((nK s k).L) (fun wx hS => St.rangeL hS 1 rfl (k * 12) _ (i0N s (k + 1) k Ab Ab)) underlying117 rfl Am ?_
   try simp only [J]
   refine aV rfl rfl rfl rfl (s.L) (fun wx hS => St.rangeL hS 0 rfl 0 _ dZl) underlying117 rfl Am ?_
   try simp only [J]
   refine bC rfl rfl ?_
   go_simp
   refine (r0d s k gc _ (HCV.out.keep hd4.fr)).mono ?_
   rintro e' w5 ⟨rfl, hf5⟩
   have st5 := hd4.keep hf5
   clear hf5
   clear hd4
   refine ⟨st5, ?_⟩
   try simp only [J]
   refine aJ rfl rfl apW ?_
   try simp only [J]
   refine aU rfl rfl ?_
   refine uW st5 1 rfl rfl rfl rfl (tbL s ((k + 1) + 1)) (i0M s (k + 1) Ab) (by rw [gX, PT.len]; omega) Am (PT.one _) ?_
   intro w6 st6
   have st6 : St Nob w w6 [(g3, s.L, 117), (g4, tbL s ((k + 1) + 1), 143)] := st6
   clear st5
   try simp only [Act.put]
   refine aH ?_
   refine NoPanic.normal ?_
   go_wp2
   go_roundw
   case rel => exact ⟨k + 1, by omega, by simp, st6⟩
   case measure => simp [intOf]; omega
  ·have hk3 : k = 15 := by omega
   subst hk3
   have hc : ¬ (((15 : Nat) : Int) + 1 < 16) := by omega
   go_wp2_with (with_reducible refine AA 22 ?_)
   refine aM st 1 rfl rfl rfl underlying143 rfl rfl Bw ?_
   go_wp2_with (with_reducible refine AB ?_)
   refine aB st 1 rfl rfl rfl rfl rfl (by first | (simp only []; done) | (simp only [List.length_append, aT, PT.len, gX]; done)) Bw (i0L _ _) ?_
   intro w5 st5
   clear st
   have hr := st5.at 1 rfl
   have hfr := st5.fr
   clear st5
   go_wp2_with fail
   exact bodyPost_ret (aX rfl rfl hr underlying143 Bw) rfl ⟨rfl, hfr⟩
end Go.Proofs.YtemcankmggmgoaaGreat
namespace Mvp
theorem l0D (n j : Nat) : lw n (4 * j / 64) / 2 ^ (4 * j % 64) % 16 = n / 16 ^ j % 16 := by
 have h64 : (18446744073709551616 : Nat) = 2 ^ (4 * j % 64) * 2 ^ (64 - 4 * j % 64) := by
  rw [← Nat.pow_add, show 4 * j % 64 + (64 - 4 * j % 64) = 64 by omega]
 have hd : (16 : Nat) ∣ 2 ^ (64 - 4 * j % 64) := by
  have : 64 - 4 * j % 64 = 4 + (60 - 4 * j % 64) := by omega
  rw [this, Nat.pow_add]
  exact Nat.dvd_mul_right _ _
 have hp : B64 ^ (4 * j / 64) * 2 ^ (4 * j % 64) = 16 ^ j := by
  have h16 : (16 : Nat) ^ j = 2 ^ (4 * j) := by rw [Nat.pow_mul]
  have hB : B64 ^ (4 * j / 64) = 2 ^ (64 * (4 * j / 64)) := by rw [Nat.pow_mul]
  rw [h16, hB, ← Nat.pow_add, Nat.div_add_mod]
 show n / B64 ^ (4 * j / 64) % 18446744073709551616 / 2 ^ (4 * j % 64) % 16 = _
 rw [h64, Nat.mod_mul_right_div_self, Nat.mod_mod_of_dvd _ hd, Nat.div_div_eq_div_mul, hp]
end Mvp
namespace Go.Mv
open Go.RowKit
theorem o0N {L R : List Value} {a n : Nat} (h : (L.drop a).take n = R) (b : Nat) (cs : List Value) (hb : b + cs.length ≤ n) (hc : (R.drop b).take cs.length = cs) : (L.drop (a + b)).take cs.length = cs := by
 rw [← h, List.drop_take, List.drop_drop, List.take_take, Nat.min_eq_left Ab] at hc
 exact hc
end Go.Mv
namespace Go.Proofs.YtemcankmggmgoaaGreat
open Go.RowKit Go.Mv Mvp Mvq
noncomputable def tmR (t : Nat × PT) : List Value := cw 4 t.1 ++ tbL t.2 16
theorem lO (t : Nat × PT) : (tmR t).length = 196 := by unfold tmR; rw [List.length_append, aT, gX]
theorem l0E (t : Nat × PT) (k : Nat) (h : k < 4) : (tmR t)[k]? = some (.int .u64 (lw t.1 k)) := by
 unfold tmR
 rw [List.getElem?_append_left (by rw [aT]; exact h)]
 exact bL 4 t.1 k h
theorem o0O (t : Nat × PT) (d : Nat) (h : d < 16) : ((tmR t).drop (4 + d * 12)).take (nK t.2 d).L.length = (nK t.2 d).L := by
 have e : (tmR t).drop (4 + d * 12) = (tbL t.2 16).drop (d * 12) := by
  unfold tmR
  rw [List.drop_append, List.drop_of_length_le Av, List.nil_append, aT, show 4 + d * 12 - 4 = d * 12 by omega]
 rw [e]
 exact i0N t.2 16 d h (Nat.le_refl _)
def qF (l : List (Nat × PT)) (k : Nat) : Nat × PT := l.getD k (0, noT)
noncomputable def tmL (l : List (Nat × PT)) : List Value := (List.range l.length).flatMap fun k => tmR (qF l k)
theorem o0P (l : List (Nat × PT)) : (tmL l).length = l.length * 196 := by
 rw [Nat.mul_comm]; exact iY _ 196 (fun i => lO _) _
theorem i0O (l : List (Nat × PT)) (k : Nat) (h : k < l.length) : ((tmL l).drop (k * 196)).take (tmR (qF l k)).length = tmR (qF l k) :=
 e0I (fun k => tmR (qF l k)) 196 (fun _ => lO _) l.length k h
theorem o0Q (l : List (Nat × PT)) (k d : Nat) (h : k < l.length) (hd : d < 16) : ((tmL l).drop (k * 196 + (4 + d * 12))).take (nK (qF l k).2 d).L.length = (nK (qF l k).2 d).L := by
 refine o0N (i0O l k h) _ _ ?_ (o0O _ d hd)
 rw [lO, PT.len]; omega
noncomputable def dbN (o : PT) : Nat → PT
 | 0 => o
 | q + 1 => zU (dbN o q)
theorem s0N (o : PT) (q gc : Nat) (w : World) (h : Cv w gc) : Calls prog 158 #[.pointer (some ⟨gc, 0, none⟩), (.agg (dbN o q).L.toArray)] w fun e w' => e = .returned (.agg (dbN o (q + 1)).L.toArray) ∧ Fr Nob w w' := l0v (dbN o q) gc w h
theorem r0e (o : PT) (_ : o.pt = o.pt) : (dbN o 4).pt = bV 16 o.pt := by
 show (zU (zU (zU (zU o)))).pt = _
 rw [zV, zV, zV, zV, o0K o.onP]
noncomputable def sK (l : List (Nat × PT)) (i : Nat) (o : PT) : Nat → PT
 | 0 => o
 | k + 1 => a0A (sK l i o k) (nK (qF l k).2 (dig (63 - i) (qF l k).1))
theorem r0f (l : List (Nat × PT)) (i : Nat) (o : PT) (k d : Nat) (hd : dig (63 - i) (qF l k).1 = d) (gc : Nat) (w : World) (h : Cv w gc) : Calls prog 159 #[.pointer (some ⟨gc, 0, none⟩), (.agg (sK l i o k).L.toArray), (.agg (nK (qF l k).2 d).L.toArray)] w fun e w' => e = .returned (.agg (sK l i o (k + 1)).L.toArray) ∧ Fr Nob w w' := by
 subst hd
 exact n0e (sK l i o k) _ gc w h
noncomputable def rL (l : List (Nat × PT)) : Nat → PT
 | 0 => noT
 | i + 1 => sK l i (dbN (rL l i) 4) l.length
theorem i0P (l : List (Nat × PT)) (i : Nat) : sK l i (dbN (rL l i) 4) l.length = rL l (i + 1) := rfl
theorem i0Q (l : List (Nat × PT)) : noT = rL l 0 := rfl
theorem l0F (o : PT) : dbN o 0 = o := rfl
theorem i0R (l : List (Nat × PT)) (i : Nat) (o : PT) : sK l i o 0 = o := rfl
noncomputable def uY (l : List (Nat × PT)) : PT := rL l 64
theorem o0R (l : List (Nat × PT)) : rL l 64 = uY l := rfl
attribute [local irreducible] bI lw mix cw cT dG cS bQ aO beN dO cI dI bM bT elN mdL cL rtN rtV dW gXn gYn PT.L a0A zU nK tbL tmR tmL dbN sK rL uY dig
theorem o0S (t : Nat × PT) (i d : Nat) (hi : i < 64) (hd : dig (63 - i) t.1 = d) (w : World) :
  Calls prog 160 #[.agg (tmR t).toArray, .int .i64 (i : Int)] w fun e w' => e = .returned (.int .u64 (d : Int)) ∧ Fr Nob w w' := by
 obtain ⟨a, ha⟩ : ∃ a, 252 - 4 * i = a := ⟨_, rfl⟩
 have ha2 : 4 * (63 - i) = a := by omega
 have hdd : lw t.1 (a / 64) / 2 ^ (a % 64) % 16 = d := by
  have := l0D t.1 (63 - i)
  rw [ha2] at this
  rw [this]
  unfold dig at hd
  exact hd
 have HD := qH hdd
 clear hd hdd
 have hal : a < 256 := by omega
 have haI : (256 : Int) - 4 * ((i : Int) + 1) = (a : Int) := by omega
 have st0 := St.start Nob w
 go_enter func160, ntmps160
 go_wp2_with (with_reducible refine AA 2 ?_)
 refine aL st0 rfl rfl rfl (tmR t) rfl ?_
 intro g1 w1 st1
 clear st0
 have c1 := (st1.at 0 rfl).cell (l0E t (a / 64) Ab)
 have hlo : (0 : Int) ≤ (a : Int) / 64 ∧ (a : Int) / 64 < 4 := by omega
 have hlo2 : (0 : Int) ≤ (a : Int) % 64 ∧ (a : Int) % 64 < 64 := by omega
 have e4 : ((a : Int) / 64).toNat = a / 64 := by omega
 have e5 : ((a : Int) % 64).toNat = a % 64 := by omega
 have hiI : (i : Int) < 64 := by omega
 have e6 : IntKind.i64.wrap ((i : Int) + 1) = (i : Int) + 1 := IntWalk.i64_in _ Ab
 have e7 : IntKind.i64.wrap (4 * ((i : Int) + 1)) = 4 * ((i : Int) + 1) := IntWalk.i64_in _ Ab
 have e8 : IntKind.i64.wrap (256 - 4 * ((i : Int) + 1)) = (a : Int) := by rw [haI]; exact IntWalk.i64_in _ Ab
 have hfr := st1.fr
 clear st1 haI
 have hw : lw t.1 (a / 64) / 2 ^ (a % 64) < 18446744073709551616 := Nat.lt_of_le_of_lt (Nat.div_le_self _ _) (gO _ _)
 have hb := bits_and_u64_nat (lw t.1 (a / 64) / 2 ^ (a % 64)) 15 hw Ab
 rw [show (15 : Nat) = 2 ^ 4 - 1 by decide, Nat.and_two_pow_sub_one_eq_mod, show (2 : Nat) ^ 4 - 1 = 15 by decide, show (2 : Nat) ^ 4 = 16 by decide] at hb
 simp only [Int.natCast_ediv, Int.natCast_pow, Int.cast_ofNat_Int] at hb
 clear ha ha2 hi
 go_wp2
 go_ret
 refine ⟨zE ?_, hfr⟩
 rw [← HD.out]
 simp
theorem _root_.Br {p : Prop} (h : p := by first | (simp only [aT]; done) | (simp only [List.length_append, aT, PT.len, gX, lO]; done)) : p := h
theorem r0g (l : List (Nat × PT)) (gc : Nat) (a : Option Addr) (n c : Nat) (w : World) (h : Cv w gc) (hl : l.length = n) (hn : n ≤ 100000) (htm : Rd w a (l.length * 196) (tmL l)) :
  Calls prog 98 #[.pointer (some ⟨gc, 0, none⟩), .slice a n c] w fun e w' => e = .returned (.agg (uY l).L.toArray) ∧ Fr Nob w w' := by
 subst hl
 rw [← o0R]
 have HCV := qH h
 have HTM := qH htm
 clear h htm
 have st0 := St.start Nob w
 go_enter func98, ntmps98
 go_wp2_with (with_reducible refine AA 4 ?_)
 refine aA st0 rfl rfl (z := .agg (List.replicate 12 (.int .u64 0)).toArray) Aa (cw 12 0) Af ?_
 intro g4 w1 st1
 clear st0
 go_wp2_with fail
 refine (b0R gc _ (HCV.out.keep st1.fr)).mono ?_
 rintro e' w2 ⟨rfl, hf2⟩
 have st2 := st1.keep hf2
 clear st1 hf2
 go_wp2_with (with_reducible refine AA 5 ?_)
 refine aA st2 rfl rfl (z := .agg (List.replicate 12 (.int .u64 0)).toArray) Aa (cw 12 0) Af ?_
 intro g5 w3 st3
 clear st2
 go_wp2_with (with_reducible refine AB ?_)
 refine aB st3 1 rfl rfl rfl rfl rfl Br Am (PT.one _) ?_
 intro w4 st4
 clear st3
 rw [i0Q l] at st4
 go_wp2
 go_loopw [10] (fun x wr => ∃ i : Nat, i ≤ 64 ∧ x = .int .i64 (i : Int) ∧ St Nob w wr [(g4, cw 12 0, 117), (g5, (rL l i).L, 117)]) (fun x _ => 64 - (intOf x).toNat)
 case atStart => exact ⟨0, by omega, rfl, st4⟩
 case round =>
  obtain ⟨i, hi, rfl, st⟩ := hrel
  clear st4
  by_cases hlt : i < 64
  ·have hltI : (i : Int) < 64 := by omega
   go_wp2
   go_loopw [13] (fun x wr => ∃ q : Nat, q ≤ 4 ∧ x = .int .i64 (q : Int) ∧ St Nob w wr [(g4, cw 12 0, 117), (g5, (dbN (rL l i) q).L, 117)]) (fun x _ => 4 - (intOf x).toNat)
   case atStart => exact ⟨0, by omega, rfl, by rw [l0F]; exact st⟩
   case round =>
    obtain ⟨q, hq, rfl, st2⟩ := hrel
    clear st
    by_cases hq4 : q < 4
    ·have hqI : (q : Int) < 4 := by omega
     go_wp2_with (with_reducible refine AA 16 ?_)
     refine aM st2 1 rfl rfl rfl underlying117 rfl rfl Am ?_
     go_wp2_with fail
     refine (s0N (rL l i) q gc _ (HCV.out.keep st2.fr)).mono ?_
     rintro e' w5 ⟨rfl, hf5⟩
     have st5 := st2.keep hf5
     clear st2 hf5
     go_wp2_with (with_reducible refine AB ?_)
     refine aB st5 1 rfl rfl rfl rfl rfl Br Am (PT.one _) ?_
     intro w6 st6
     clear st5
     go_wp2
     go_roundw
     case rel => exact ⟨q + 1, by omega, by go_num, st6⟩
     case measure => simp [intOf]; omega
    ·have hqI : ¬ ((q : Int) < 4) := by omega
     have hq5 : q = 4 := by omega
     rw [hq5] at st2
     clear hq5
     go_wp2
     go_loopw [21] (fun x wr => ∃ k : Nat, k ≤ l.length ∧ x = .int .i64 (k : Int) ∧ St Nob w wr [(g4, cw 12 0, 117), (g5, (sK l i (dbN (rL l i) 4) k).L, 117)]) (fun x _ => l.length - (intOf x).toNat)
     case atStart => exact ⟨0, by omega, rfl, by rw [i0R]; exact st2⟩
     case round =>
      obtain ⟨k, hk, rfl, st3⟩ := hrel
      clear st2
      by_cases hkl : k < l.length
      ·have hkI : (k : Int) < (l.length : Int) := by omega
       obtain ⟨ba, oa, hea, -⟩ := HTM.out.at Ab
       subst hea
       obtain ⟨d, hd⟩ : ∃ d, dig (63 - i) (qF l k).1 = d := ⟨_, rfl⟩
       have hd16 : d < 16 := by rw [← hd]; unfold dig; exact Nat.mod_lt _ Ac
       have HD := qH hd
       have HIL := qH hlt
       have HKL := qH hkl
       clear hd hlt hkl
       have HD16 := qH hd16
       have hd1 : (0 : Int) ≤ (d : Int) := by omega
       have hd2 : (d : Int) < 16 := by omega
       go_wp2_with fail
       refine wp_region_noPanic ?_
       refine aP (fun wx => St Nob w wx [(g4, cw 12 0, 117), (g5, (sK l i (dbN (rL l i) 4) k).L, 117)]) 15 (.w 0 (.t 1 (.w 2 (.w 3 (.w 4 (.w 5 (.w 6 (.t 7 (.w 8 (.w 10 (.w 11 (.r 9 (.w 12 (.t 13 (.r 14 (.m 15 .nil)))))))))))))))) Aa Aa st3.drew (fun _ _ _ _ _ h => h) ?_
       have hd4 := st3.drew
       clear st3
       refine aJ rfl rfl apW ?_
       try simp only [J]
       refine aV rfl rfl rfl rfl ((sK l i (dbN (rL l i) 4) k).L) (fun wx hS => St.rangeL hS 1 rfl 0 _ dZl) underlying117 rfl Am ?_
       try simp only [J]
       refine aJ rfl rfl apW ?_
       try simp only [J]
       refine aJ rfl rfl apW ?_
       try simp only [J]
       refine aJ rfl rfl apW ?_
       try simp only [J]
       refine aJ rfl rfl apW ?_
       try simp only [J]
       refine aJ rfl rfl apW ?_
       try simp only [J]
       refine aV rfl rfl rfl rfl (tmR (qF l k)) (fun wx hS => (sJ (HTM.out.still (St.fr hS)) (k * 196) _ (i0O l k HKL.out))) underlying147 rfl (by first | (rw [aT]; kernel_rfl) | (simp only [lO]; kernel_rfl)) ?_
       try simp only [J]
       refine aJ rfl rfl apW ?_
       try simp only [J]
       refine aJ rfl rfl apW ?_
       try simp only [J]
       refine aJ rfl rfl apW ?_
       try simp only [J]
       refine bC rfl rfl ?_
       go_simp
       refine (o0S (qF l k) i d HIL.out HD.out _).mono ?_
       rintro e' w5 ⟨rfl, hf5⟩
       have st5 := hd4.keep hf5
       clear hf5
       clear hd4
       refine ⟨st5, ?_⟩
       try simp only [J]
       refine aJ rfl rfl apW ?_
       try simp only [J]
       refine aV rfl rfl rfl rfl ((nK (qF l k).2 d).L) (fun wx hS => by have hr := sJ (HTM.out.still (St.fr hS)) (k * 196 + (4 + d * 12)) _ (o0Q l k d HKL.out HD16.out); rw [← Nat.add_assoc, ← Nat.add_assoc] at hr; exact hr) underlying117 rfl Am ?_
       try simp only [J]
       refine bC rfl rfl ?_
       go_simp
       refine (r0f l i (dbN (rL l i) 4) k d HD.out gc _ (HCV.out.keep st5.fr)).mono ?_
       rintro e' w6 ⟨rfl, hf6⟩
       have st6 := st5.keep hf6
       clear hf6
       clear st5
       refine ⟨st6, ?_⟩
       try simp only [J]
       refine aU rfl rfl ?_
       refine aG st6 1 rfl rfl rfl rfl Br Am (PT.one _) ?_
       intro w7 st7
       clear st6
       try simp only [Act.put]
       refine aH ?_
       refine NoPanic.normal ?_
       go_wp2
       go_roundw
       case rel => exact ⟨k + 1, by have := HKL.out; omega, by go_num, st7⟩
       case measure => have := HKL.out; simp [intOf]; omega
      ·have hkI : ¬ ((k : Int) < (l.length : Int)) := by omega
       have hk2 : k = l.length := by omega
       rw [hk2, i0P] at st3
       clear hk2
       go_wp2
       go_roundw
       case rel => exact ⟨i + 1, by omega, by go_num, st3⟩
       case measure => simp [intOf]; omega
  ·have hltI : ¬ ((i : Int) < 64) := by omega
   have hi2 : i = 64 := by omega
   rw [hi2] at st
   clear hi2
   go_wp2_with (with_reducible refine AA 41 ?_)
   refine aM st 1 rfl rfl rfl underlying117 rfl rfl Am ?_
   go_wp2_with (with_reducible refine AB ?_)
   refine aB st 0 rfl rfl rfl rfl rfl Br Am (PT.one _) ?_
   intro w5 st5
   clear st
   have hr := st5.at 0 rfl
   have hfr := st5.fr
   clear st5
   go_wp2_with fail
   exact bodyPost_ret (aY rfl rfl hr underlying117 rfl Am) rfl ⟨rfl, hfr⟩
end Go.Proofs.YtemcankmggmgoaaGreat
namespace Go.Mv
open Go.RowKit
section
variable {P : Program} {w w0 : World} {ops : Array Oper} {rest : List Oper} {o : Oper} {a : Act} {Q : Exit → Act → World → Prop} {S : Nat → Prop} {bl : List (Nat × List Value × TypeId)} {K : Act → World → Prop}
theorem l0G (hst : St S w0 w bl) {t e : TypeId} {parts : Array (Nat × Operand)} (ho : o.op = .buildSlice t 1 parts) (hu : P.underlying t = some (.slice e)) {z : Value} {sz by_ : Nat} (hi0 : (P.info? e).map (fun i => (i.zero, i.size, i.bytes)) = some (some z, sz, by_)) (cs : List Value)
  (hp : (parts.toList.map fun p => (p.1, a.eval p.2)) = [(0, .agg cs.toArray)]) (hv : cs.length = sz) (h0 : 0 < sz) (h24 : sz ≤ 16777216)
  (h : ∀ g w', w.heap.size ≤ g → St S w0 w' (bl ++ [(g, cs, e)]) → K (a.put o.dst (.slice (some ⟨g, 0, none⟩) 1 1)) w') : o.wp P a w K Q := by
 obtain ⟨i, hi, hz0⟩ : ∃ i, P.info? e = some i ∧ (i.zero, i.size, i.bytes) = (some z, sz, by_) := by simpa using hi0
 simp only [Prod.mk.injEq] at hz0
 obtain ⟨hz1, hsz, hby⟩ := hz0
 have hf : Instr.fill (fun j => some (j * i.size, i.size)) ((Array.range (1 * i.size)).map (z.cells[· % z.cells.size]!)) (parts.map fun (i, x) => (i, a.eval x)).toList = some cs.toArray := by
  rw [show (parts.map fun (i, x) => (i, a.eval x)).toList = (parts.toList.map fun p => (p.1, a.eval p.2)) by simp, hp, hsz]
  have hfw := Great.fill_whole h0 [.agg cs.toArray] ((Array.range (1 * sz)).map (z.cells[· % z.cells.size]!)) (by intro v hv'; have h1 := List.mem_singleton.1 hv'; subst h1; show cs.toArray.size = sz; simpa using hv) Ae
  rw [show ([.agg cs.toArray] : List Value).flatMap (fun v => v.cells.toList) = cs by simp [Value.cells]] at hfw
  exact hfw
 exact wp_buildSlice t e 1 parts ho cs.toArray i z hu hi hz1 Bh Bh hf (h _ _ (Nat.le_refl _) (hst.new ((Fr.refl _ w).alloc _) (Has.new w cs.toArray e) (Nat.le_refl _)))
theorem uZ (hst : St S w0 w bl) (i : Nat) {g : Nat} {L : List Value} {T : TypeId} (hb : bl[i]? = some (g, L, T)) {s x : Operand} {t xt : TypeId} (hgd : o.guard = none) (ho : o.op = .call { callee := .builtin .append, args := #[s, x], argTypes := #[t, xt] })
  {e : TypeId} {k : IntKind} {z : Value} (ht : P.underlying t = some (.slice e)) (hxt : P.underlying xt = some (.int k)) (hi0 : (P.info? e).map (fun i => (i.zero, i.size, i.bytes)) = some (some z, 1, 1)) (hzc : z.cells = #[z]) (hone : z.oneCell' = true) {n m cap : Nat} (hs : a.eval s = .slice (some ⟨g, 0, none⟩) n cap) {kx : IntKind} (hx : a.eval x = .int kx (m : Int))
  (hfit : n + m ≤ cap) (hm : 0 < m) (hm2 : m ≤ 1000000) (hL : n + m ≤ L.length) (L' : List Value) (hL' : splice L n (List.replicate m z) = L')
  (h : ∀ w', St S w0 w' (bl.set i (g, L', T)) → wpList P ops Q rest (a.put o.dst (.slice (some ⟨g, 0, none⟩) (n + m) cap)) w') : wpList P ops Q (o :: rest) a w := by
 refine wpList_plain hgd fun K hK => ?_
 obtain ⟨j, hj, hz, hsize, hby⟩ := info_parts hi0
 obtain ⟨w', hst', hh, hfr, hz2⟩ := eW (P := P) g n T (List.replicate m z) 0 L w (hst.at i hb) Ao (by intro v hv; rw [List.eq_of_mem_replicate hv]; exact hone)
 have hzz : (Builtin.zeroCells z.cells m).toList = List.replicate m z := by
  apply List.ext_getElem?
  intro q
  unfold Builtin.zeroCells
  rw [hzc]
  by_cases hq : q < m
  ·simp [hq, Nat.mod_one]
  ·simp [hq]
 have hwrap : IntKind.i64.wrap (m : Int) = (m : Int) := IntWalk.i64_in _ Ab
 have h1 : ¬ ((m : Int) < 0) := by omega
 have h2 : ¬ ((m : Int) * (1 : Int) > 2 ^ 48) := by omega
 have h2' : ¬ (2 ^ 48 < (m : Int)) := by omega
 have h3 : ¬ (m * 1 = 0) := by omega
 have h3' : m ≠ 0 := by omega
 have h4 : ¬ ((m : Int) ≤ 0) := by omega
 have hr : (Builtin.append_ #[t, xt] o.type #[.slice (some ⟨g, 0, none⟩) n cap, .int kx (m : Int)]).run P w = .ok (.slice (some ⟨g, 0, none⟩) (n + m) cap) w' := by
  simp [Builtin.append_, run_underlying ht, run_underlying hxt, sizeOf, typeInfo, hj, hsize, hby, hwrap, h1, h3', hfit, zeroValue, hz, hH, asInt, asIntOf, hzz, hst']
  intro hbig
  omega
 unfold Oper.wp execOp
 simp only [ho, resolve, invoke, builtin, Sem.run_bind, Sem.run_pure, Result.andThen_ok, List.map_toArray, List.map_cons, List.map_nil, hs, hx, hr]
 rw [Nat.add_zero, hL'] at hh
 exact hK _ _ (h w' (hst.put i hb hfr hh))
theorem b0S (hst : St S w0 w bl) (i : Nat) {g : Nat} {L : List Value} {T : TypeId} (hb : bl[i]? = some (g, L, T)) {s x : Operand} {t : TypeId} (ho : o.op = .call { callee := .builtin .append, args := #[s, x], argTypes := #[t, t] })
  {e : TypeId} {z : Value} (ht : P.underlying t = some (.slice e)) (hi0 : (P.info? e).map (fun i => (i.zero, i.size, i.bytes)) = some (some z, 1, 1)) {n m cap c : Nat} (hs : a.eval s = .slice (some ⟨g, 0, none⟩) n cap) {xa : Option Addr} (hx : a.eval x = .slice xa m c) {news : List Value} (hnews : Rd w xa m news) (h1 : ∀ u ∈ news, u.oneCell' = true)
  (hfit : n + m ≤ cap) (hL : n + m ≤ L.length) (L' : List Value) (hL' : splice L n news = L')
  (h : ∀ w', St S w0 w' (bl.set i (g, L', T)) → K (a.put o.dst (.slice (some ⟨g, 0, none⟩) (n + m) cap)) w') : o.wp P a w K Q := by
 obtain ⟨j, hj, hz, hsize, hby⟩ := info_parts hi0
 have hlen := hnews.len
 obtain ⟨w', hr, hh, hfr, -⟩ := lS (P := P) t o.type e j ht hj g 0 n cap L T (hst.at i hb) xa m c news (by rw [hsize, Nat.mul_one]; exact hnews) h1 hfit (by rw [hsize]; omega)
 rw [hsize, Nat.mul_one, Nat.zero_add, hL'] at hh
 unfold Oper.wp execOp
 simp only [ho, resolve, invoke, builtin, Sem.run_bind, Sem.run_pure, Result.andThen_ok, List.map_toArray, List.map_cons, List.map_nil, hs, hx, hr]
 exact h w' (hst.put i hb hfr hh)
end
end Go.Mv
namespace Go.Proofs.YtemcankmggmgoaaGreat
section
open Go.RowKit Go.Mv Mvp Mvq
theorem l0H (n : Nat) (s : PT) : prog.built 147 [(0, i4 n), (1, .agg (tbL s 16).toArray)] = some (tmR (n, s)).toArray := by kernel_rfl
theorem o0T : (prog.info? 147).map (fun i => (i.zero, i.size, i.bytes)) = some (some (.agg (List.replicate 196 (.int .u64 0)).toArray), 196, 1568) := by kernel_rfl
theorem o0U (t : Nat × PT) : tmL [t] = tmR t := by
 show (List.range 1).flatMap (fun k => tmR (qF [t] k)) = tmR t
 simp [List.range_succ, qF]
attribute [local irreducible] bI lw mix cw cT dG cS bQ aO beN dO cI dI bM bT elN mdL cL rtN rtV dW gXn gYn PT.L a0A zU nK tbL tmR tmL dbN sK rL uY dig
theorem o0V (n : Nat) (s : PT) (gc : Nat) (w : World) (h : Cv w gc) :
  Calls prog 87 #[.pointer (some ⟨gc, 0, none⟩), i4 n, .agg s.L.toArray] w fun e w' => e = .returned (.agg (uY [(n, s)]).L.toArray) ∧ Fr Nob w w' := by
 have HCV := qH h
 clear h
 have st0 := St.start Nob w
 go_enter func87, ntmps87
 go_wp2_with (with_reducible refine AA 4 ?_)
 refine aL st0 rfl rfl rfl (cw 4 n) rfl ?_
 intro g4 w1 st1
 clear st0
 go_wp2_with (with_reducible refine AA 5 ?_)
 refine aL st1 rfl rfl rfl (s.L) rfl ?_
 intro g5 w2 st2
 clear st1
 go_wp2_with (with_reducible refine AA 6 ?_)
 refine aA st2 rfl rfl (z := .agg (List.replicate 12 (.int .u64 0)).toArray) Aa (cw 12 0) Af ?_
 intro g6 w3 st3
 clear st2
 go_wp2_with fail
 refine wp_region_noPanic ?_
 refine aP (fun wx => St Nob w wx [(g4, cw 4 n, 111), (g5, s.L, 117), (g6, cw 12 0, 117)]) 8 (.w 0 (.t 1 (.w 2 (.t 3 (.r 4 (.w 5 (.r 6 (.r 7 (.m 8 .nil))))))))) Aa Aa st3.drew (fun _ _ _ _ _ h => h) ?_
 have hd3 := st3.drew
 clear st3
 refine aJ rfl rfl apW ?_
 try simp only [J]
 refine aV rfl rfl rfl rfl (cw 4 n) (fun wx hS => St.rangeL hS 0 rfl 0 _ dZl) underlying111 rfl (by first | (rw [aT]; kernel_rfl) | (rw [PT.len]; kernel_rfl) | (rw [gX]; kernel_rfl) | (rw [lO]; kernel_rfl) | (simp only [List.length_append, aT]; kernel_rfl) | (simp only [List.length_append, aT, PT.len, gX, lO]; kernel_rfl)) ?_
 try simp only [J]
 refine aJ rfl rfl apW ?_
 try simp only [J]
 refine aV rfl rfl rfl rfl (s.L) (fun wx hS => St.rangeL hS 1 rfl 0 _ dZl) underlying117 rfl Am ?_
 try simp only [J]
 refine bC rfl rfl ?_
 go_simp
 refine (uX s gc _ (HCV.out.keep hd3.fr)).mono ?_
 rintro e' w4 ⟨rfl, hf4⟩
 have st4 := hd3.keep hf4
 clear hf4
 clear hd3
 refine ⟨st4, ?_⟩
 try simp only [J]
 refine aJ rfl rfl (cC rfl _ (l0H _ _)) ?_
 try simp only [J]
 refine bC rfl rfl ?_
 refine l0G st4 rfl underlying199 o0T (tmR (n, s)) rfl (lO _) Ac Ac ?_
 intro g13 w5 hg13 st5
 clear hg13
 have HRD := qH (show Rd w5 (some ⟨g13, 0, none⟩) (([(n, s)] : List (Nat × PT)).length * 196) (tmL [(n, s)]) by rw [o0U]; have h := Rd.whole (st5.at 3 rfl); rw [lO] at h; exact h)
 refine ⟨St.less st5 Ae, ?_⟩
 try simp only [J]
 refine bC rfl rfl ?_
 go_simp
 refine (r0g [(n, s)] gc (some ⟨g13, 0, none⟩) 1 1 _ (HCV.out.keep st5.fr) rfl Ac HRD.out).mono ?_
 rintro e' w6 ⟨rfl, hf6⟩
 have st6 := st5.keep hf6
 clear hf6
 clear st5
 refine ⟨St.less st6 Ae, ?_⟩
 try simp only [J]
 refine aU rfl rfl ?_
 refine aG st6 2 rfl rfl rfl rfl Br Am (PT.one _) ?_
 intro w7 st7
 clear st6
 try simp only [Act.put]
 refine aH ?_
 refine NoPanic.normal ?_
 have hr := st7.at 2 rfl
 have hfr := st7.fr
 clear st7
 go_wp2_with fail
 exact bodyPost_ret (aY rfl rfl hr underlying117 rfl Am) rfl ⟨rfl, hfr⟩
end
section
open Go.RowKit Go.Mv Mvp Mvq
theorem e0K (n : Nat) : List.replicate n (Value.int .u8 0) = bs (List.replicate n 0) := by simp [bs]
theorem i0S : splice (bs (List.replicate 33 0)) 1 (List.replicate 32 (Value.int .u8 0)) = bs (List.replicate 33 0) := by rfl
def bb1 (b : Nat) : List Value := bs ([UInt8.ofNat b] ++ List.replicate 32 0)
def bb2 (b X : Nat) : List Value := bs (UInt8.ofNat b :: cI X)
theorem o0W (b : Nat) : (bb1 b).length = 33 := by unfold bb1; rw [bP]; simp
theorem i0T (b X : Nat) : (bb2 b X).length = 33 := by unfold bb2; rw [bP, List.length_cons, eH]
theorem b0T (b X : Nat) : splice (bb1 b) 1 (bs (cI X)) = bb2 b X := by
 unfold bb1 bb2
 rw [jF, xN _ _ _ 1 (by simp [bs]) (by rw [bP, bP, eH]; rfl), ← jF]; rfl
theorem i0U (b : Nat) (hb : b < 256) : (bs (List.replicate 33 0)).set 0 (.int .u8 (b : Int)) = bb1 b := by
 unfold bb1
 have h := bs_set (List.replicate 33 0) 0 (UInt8.ofNat b)
 rw [show ((UInt8.ofNat b).toNat : Int) = (b : Int) by rw [UInt8.toNat_ofNat']; omega] at h
 rw [h]; rfl
theorem r0h (b : Nat) (h : b = 0 ∨ b = 1) : bits .or .u8 2 (b : Int) = ((2 + b : Nat) : Int) := by
 rcases h with rfl | rfl <;> decide
attribute [local irreducible] bI lw mix cw cT dG cS bQ aO beN dO cI dI bM bT elN mdL cL rtN rtV dW gXn gYn bb1 bb2
theorem g0o (m : Md) (gc gp bx by_ : Nat) (w : World) (hok : m.Ok) (hcv : Has w gc (nT m gp bx by_) 125) (hpm : Has w gp (mdL m) 187) (x y z : Nat) (hb : (z % m.M == 0) = true) :
  Calls prog 88 #[.pointer (some ⟨gc, 0, none⟩), ptV m x y z] w fun e w' => ∃ sv, e = .returned sv ∧ Own w' w.heap.size 5 1 sv 33 (bs (List.replicate 33 0)) ∧ Fr Nob w w' := by
 have HOK := qH hok
 have HCV := qH hcv
 have HPM := qH hpm
 clear hok hcv hpm
 have HB := qH hb
 clear hb
 unfold ptV ptL
 have st0 := St.start Nob w
 go_enter func88, ntmps88
 go_wp2_with (with_reducible refine AA 3 ?_)
 refine aL st0 rfl rfl rfl (cw 4 (elN m x) ++ (cw 4 (elN m y) ++ cw 4 (elN m z))) rfl ?_
 intro g3 w1 st1
 clear st0
 go_wp2_with (with_reducible refine AA 9 ?_)
 refine eP rfl rfl underlying22 dT rfl rfl rfl 1 33 Ae Ae Ab Ab Al ?_
 intro w2 hg2 hf2 hz2
 clear hz2
 have st2 := st1.new hf2 hg2 (Nat.le_refl _)
 have hb2 := st1.fr.size
 skip
 clear st1 hg2 hf2
 generalize w1.heap.size = gb at *
 have HBB := qH hb2
 clear hb2
 rw [e0K] at st2
 go_wp2_with (with_reducible refine AA 10 ?_)
 refine aM st2 0 rfl rfl rfl underlying117 rfl rfl Ad ?_
 go_wp2_with fail
 refine (iW m HOK.out x y z true HB.out _).mono ?_
 rintro e' w3 ⟨rfl, hf3⟩
 have st3 := st2.keep hf3
 clear st2 hf3
 go_wp2_with (with_reducible refine AA 13 ?_)
 refine uZ st3 1 rfl rfl rfl underlying22 underlying3 dT rfl rfl (n := 1) (m := 32) (cap := 33) rfl rfl Ac Ac Ac (by rw [bP, List.length_replicate]; decide) (bs (List.replicate 33 0)) i0S ?_
 intro w4 st4
 clear st3
 have hown : Own w4 w.heap.size 5 1 (.slice (some ⟨gb, 0, none⟩) 33 33) 33 (bs (List.replicate 33 0)) := by
  have h := st4.at 1 rfl
  exact Own.made h w.heap.size HBB.out 1 33 33 (Nat.le_refl _) Al Ac
 have hfr := st4.fr
 clear st4
 go_wp2_with fail
 go_ret
 exact ⟨_, rfl, hown, hfr⟩
theorem n0g (m : Md) (gp : Nat) (w : World) (hok : m.Ok) (hpm : Has w gp (mdL m) 187) (x r : Nat) (hr : x ^ (m.M - 2) = r) :
  Calls prog 150 #[.pointer (some ⟨gp, 0, none⟩), i4 (elN m x)] w fun e w' => e = .returned (i4 (elN m r)) ∧ Fr Nob w w' := by
 subst hr; exact l0b m gp w hok hpm x
theorem vA (m : Md) (gp : Nat) (w : World) (hok : m.Ok) (hpm : Has w gp (mdL m) 187) (x r : Nat) (hr : x % m.M = r) :
  Calls prog 120 #[.pointer (some ⟨gp, 0, none⟩), i4 (elN m x)] w fun e w' => e = .returned (i4 r) ∧ Fr Nob w w' := by
 subst hr; exact mM m gp w hok hpm x
theorem o0X (m : Md) (gc gp bx by_ : Nat) (w : World) (hok : m.Ok) (hcv : Has w gc (nT m gp bx by_) 125) (hpm : Has w gp (mdL m) 187) (x y z : Nat) (hb : (z % m.M == 0) = false) (i ii i3 yy v xx u : Nat) (ei : z ^ (m.M - 2) = i) (eii : i * i = ii) (ei3 : ii * i = i3) (eyy : y * i3 = yy) (ev : yy % m.M = v) (exx : x * ii = xx) (eu : xx % m.M = u) :
  Calls prog 88 #[.pointer (some ⟨gc, 0, none⟩), ptV m x y z] w fun e w' => ∃ sv, e = .returned sv ∧ Own w' w.heap.size 5 1 sv 33 (bs (UInt8.ofNat (2 + v % 2) :: cI u)) ∧ Fr Nob w w' := by
 have HOK := qH hok
 have HCV := qH hcv
 have HPM := qH hpm
 clear hok hcv hpm
 have HB := qH hb
 have Hi := qH ei
 have Hii := qH eii
 have Hi3 := qH ei3
 have Hyy := qH eyy
 have Hv := qH ev
 have Hxx := qH exx
 have Hu := qH eu
 clear hb ei eii ei3 eyy ev exx eu
 unfold ptV ptL
 have st0 := St.start Nob w
 go_enter func88, ntmps88
 go_wp2_with (with_reducible refine AA 3 ?_)
 refine aL st0 rfl rfl rfl (cw 4 (elN m x) ++ (cw 4 (elN m y) ++ cw 4 (elN m z))) rfl ?_
 intro g3 w1 st1
 clear st0
 go_wp2_with (with_reducible refine AA 9 ?_)
 refine eP rfl rfl underlying22 dT rfl rfl rfl 1 33 Ae Ae Ab Ab Al ?_
 intro w2 hg2 hf2 hz2
 clear hz2
 have st2 := st1.new hf2 hg2 (Nat.le_refl _)
 have hb2 := st1.fr.size
 skip
 clear st1 hg2 hf2
 generalize w1.heap.size = gb at *
 have HBB := qH hb2
 clear hb2
 rw [e0K] at st2
 go_wp2_with (with_reducible refine AA 10 ?_)
 refine aM st2 0 rfl rfl rfl underlying117 rfl rfl Ad ?_
 go_wp2_with fail
 refine (iW m HOK.out x y z false HB.out _).mono ?_
 rintro e' w3 ⟨rfl, hf3⟩
 have st3 := st2.keep hf3
 clear st2 hf3
 go_wp2_with fail
 refine wp_region_noPanic ?_
 refine aP (fun wx => St Nob w wx [(g3, cw 4 (elN m x) ++ (cw 4 (elN m y) ++ cw 4 (elN m z)), 117), (gb, bs (List.replicate 33 0), 5)]) 8 (.w 0 (.w 1 (.w 2 (.t 3 (.w 4 (.t 5 (.b 6 7 (.r 7 (.m 8 .nil)) (.r 6 (.m 8 .nil))))))))) Aa Aa st3.drew (fun _ _ _ _ _ h => h) ?_
 have hd3 := st3.drew
 clear st3
 refine aJ rfl rfl apW ?_
 try simp only [J]
 refine aJ rfl rfl apW ?_
 try simp only [J]
 refine aJ rfl rfl apW ?_
 try simp only [J]
 refine jY (v := ?_) rfl rfl (fun wx hS => ?_) ?_
 rotate_left 1
 ·(have hc := (HCV.out.keep (St.fr hS) id).cell (i := 0) rfl; clear hS; go_simp; with_reducible rfl)
 try simp only [J]
 refine aJ rfl rfl apW ?_
 try simp only [J]
 refine aV rfl rfl rfl rfl (cw 4 (elN m z)) (fun wx hS => St.rangeL hS 0 rfl 8 _ (mR _ _ _)) underlying66 rfl Ad ?_
 try simp only [J]
 refine mL (C := fun g6 wz => St Nob w wz [(g3, cw 4 (elN m x) ++ (cw 4 (elN m y) ++ cw 4 (elN m z)), 117), (gb, bs (List.replicate 33 0), 5), (g6, cw 4 (elN m i), 66)]) (F := ?_) (fun key => ?_) ?_
 rotate_left 1
 ·skip
  refine lH rfl rfl rfl rfl ?_ ?_
  ·skip
   go_simp
   refine (n0g m gp _ HOK.out (HPM.out.keep hd3.fr id) z i Hi.out).mono ?_
   rintro e' w4 ⟨rfl, hf4⟩
   have st4 := hd3.keep hf4
   clear hf4
   refine ⟨st4, ?_⟩
   try simp only [J]
   refine bC rfl rfl ?_
   refine cH st4 rfl (z := zAd) Aa (cw 4 0) Af ?_
   intro g6 w5 st5
   refine ⟨St.less st5 Ae, ?_⟩
   try simp only [J]
   refine aU rfl rfl ?_
   refine aG st5 2 rfl rfl rfl rfl Ah Ad (aF _ _) ?_
   intro w6 st6
   try simp only [Act.put]
   refine aH ?_
   exact key g6 _ st6
  ·skip
   refine cH hd3 rfl (z := zAd) Aa (cw 4 0) Af ?_
   intro g6 w7 st7
   refine ⟨St.less st7 Ae, ?_⟩
   try simp only [J]
   refine bC rfl rfl ?_
   go_simp
   refine (n0g m gp _ HOK.out (HPM.out.keep st7.fr id) z i Hi.out).mono ?_
   rintro e' w8 ⟨rfl, hf8⟩
   have st8 := st7.keep hf8
   clear hf8
   refine ⟨St.less st8 Ae, ?_⟩
   try simp only [J]
   refine aU rfl rfl ?_
   refine aG st8 2 rfl rfl rfl rfl Ah Ad (aF _ _) ?_
   intro w9 st9
   try simp only [Act.put]
   refine aH ?_
   exact key g6 _ st9
 intro g6 w10 st10
 have st10 : St Nob w w10 [(g3, cw 4 (elN m x) ++ (cw 4 (elN m y) ++ cw 4 (elN m z)), 117), (gb, bs (List.replicate 33 0), 5), (g6, cw 4 (elN m i), 66)] := st10
 clear hd3
 refine NoPanic.normal ?_
 go_wp2_with fail
 refine wp_region_noPanic ?_
 refine aP (fun wx => St Nob w wx [(g3, cw 4 (elN m x) ++ (cw 4 (elN m y) ++ cw 4 (elN m z)), 117), (gb, bs (List.replicate 33 0), 5), (g6, cw 4 (elN m i), 66)]) 7 (.w 0 (.w 1 (.w 2 (.t 3 (.t 4 (.b 5 6 (.r 6 (.m 7 .nil)) (.r 5 (.m 7 .nil)))))))) Aa Aa st10.drew (fun _ _ _ _ _ h => h) ?_
 have hd10 := st10.drew
 clear st10
 refine aJ rfl rfl apW ?_
 try simp only [J]
 refine aJ rfl rfl apW ?_
 try simp only [J]
 refine aJ rfl rfl apW ?_
 try simp only [J]
 refine jY (v := ?_) rfl rfl (fun wx hS => ?_) ?_
 rotate_left 1
 ·(have hc := (HCV.out.keep (St.fr hS) id).cell (i := 0) rfl; clear hS; go_simp; with_reducible rfl)
 try simp only [J]
 refine aV rfl rfl rfl rfl (cw 4 (elN m i)) (fun wx hS => St.rangeL hS 2 rfl 0 _ dZl) underlying66 rfl Ad ?_
 try simp only [J]
 refine mL (C := fun g7 wz => St Nob w wz [(g3, cw 4 (elN m x) ++ (cw 4 (elN m y) ++ cw 4 (elN m z)), 117), (gb, bs (List.replicate 33 0), 5), (g6, cw 4 (elN m i), 66), (g7, cw 4 (elN m ii), 66)]) (F := ?_) (fun key => ?_) ?_
 rotate_left 1
 ·skip
  refine lH rfl rfl rfl rfl ?_ ?_
  ·skip
   go_simp
   refine (eK m gp _ HOK.out (HPM.out.keep hd10.fr id) i ii Hii.out).mono ?_
   rintro e' w11 ⟨rfl, hf11⟩
   have st11 := hd10.keep hf11
   clear hf11
   refine ⟨st11, ?_⟩
   try simp only [J]
   refine bC rfl rfl ?_
   refine cH st11 rfl (z := zAd) Aa (cw 4 0) Af ?_
   intro g7 w12 st12
   refine ⟨St.less st12 Ae, ?_⟩
   try simp only [J]
   refine aU rfl rfl ?_
   refine aG st12 3 rfl rfl rfl rfl Ah Ad (aF _ _) ?_
   intro w13 st13
   try simp only [Act.put]
   refine aH ?_
   exact key g7 _ st13
  ·skip
   refine cH hd10 rfl (z := zAd) Aa (cw 4 0) Af ?_
   intro g7 w14 st14
   refine ⟨St.less st14 Ae, ?_⟩
   try simp only [J]
   refine bC rfl rfl ?_
   go_simp
   refine (eK m gp _ HOK.out (HPM.out.keep st14.fr id) i ii Hii.out).mono ?_
   rintro e' w15 ⟨rfl, hf15⟩
   have st15 := st14.keep hf15
   clear hf15
   refine ⟨St.less st15 Ae, ?_⟩
   try simp only [J]
   refine aU rfl rfl ?_
   refine aG st15 3 rfl rfl rfl rfl Ah Ad (aF _ _) ?_
   intro w16 st16
   try simp only [Act.put]
   refine aH ?_
   exact key g7 _ st16
 intro g7 w17 st17
 have st17 : St Nob w w17 [(g3, cw 4 (elN m x) ++ (cw 4 (elN m y) ++ cw 4 (elN m z)), 117), (gb, bs (List.replicate 33 0), 5), (g6, cw 4 (elN m i), 66), (g7, cw 4 (elN m ii), 66)] := st17
 clear hd10
 refine NoPanic.normal ?_
 go_wp2_with fail
 refine wp_region_noPanic ?_
 refine aP (fun wx => St Nob w wx [(g3, cw 4 (elN m x) ++ (cw 4 (elN m y) ++ cw 4 (elN m z)), 117), (gb, bs (List.replicate 33 0), 5), (g6, cw 4 (elN m i), 66), (g7, cw 4 (elN m ii), 66)]) 20 (.w 0 (.w 1 (.w 2 (.t 3 (.w 4 (.w 5 (.w 6 (.t 7 (.w 8 (.t 9 (.w 10 (.w 11 (.w 12 (.t 13 (.t 14 (.t 15 (.b 16 19 (.b 17 19 (.b 18 19 (.r 19 (.m 20 .nil)) (.r 18 (.m 20 .nil))) (.r 17 (.r 18 (.m 20 .nil)))) (.r 16 (.r 17 (.r 18 (.m 20 .nil))))))))))))))))))))) Aa Aa st17.drew (fun _ _ _ _ _ h => h) ?_
 have hd17 := st17.drew
 clear st17
 refine aJ rfl rfl apW ?_
 try simp only [J]
 refine aJ rfl rfl apW ?_
 try simp only [J]
 refine aJ rfl rfl apW ?_
 try simp only [J]
 refine jY (v := ?_) rfl rfl (fun wx hS => ?_) ?_
 rotate_left 1
 ·(have hc := (HCV.out.keep (St.fr hS) id).cell (i := 0) rfl; clear hS; go_simp; with_reducible rfl)
 try simp only [J]
 refine aJ rfl rfl apW ?_
 try simp only [J]
 refine aJ rfl rfl apW ?_
 try simp only [J]
 refine aJ rfl rfl apW ?_
 try simp only [J]
 refine jY (v := ?_) rfl rfl (fun wx hS => ?_) ?_
 rotate_left 1
 ·(have hc := (HCV.out.keep (St.fr hS) id).cell (i := 0) rfl; clear hS; go_simp; with_reducible rfl)
 try simp only [J]
 refine aJ rfl rfl apW ?_
 try simp only [J]
 refine aV rfl rfl rfl rfl (cw 4 (elN m y)) (fun wx hS => St.rangeL hS 0 rfl 4 _ (a0z _ _ _)) underlying66 rfl Ad ?_
 try simp only [J]
 refine aJ rfl rfl apW ?_
 try simp only [J]
 refine aJ rfl rfl apW ?_
 try simp only [J]
 refine aJ rfl rfl apW ?_
 try simp only [J]
 refine jY (v := ?_) rfl rfl (fun wx hS => ?_) ?_
 rotate_left 1
 ·(have hc := (HCV.out.keep (St.fr hS) id).cell (i := 0) rfl; clear hS; go_simp; with_reducible rfl)
 try simp only [J]
 refine aV rfl rfl rfl rfl (cw 4 (elN m ii)) (fun wx hS => St.rangeL hS 3 rfl 0 _ dZl) underlying66 rfl Ad ?_
 try simp only [J]
 refine aV rfl rfl rfl rfl (cw 4 (elN m i)) (fun wx hS => St.rangeL hS 2 rfl 0 _ dZl) underlying66 rfl Ad ?_
 try simp only [J]
 refine mL (C := fun g8 wz => St Nob w wz [(g3, cw 4 (elN m x) ++ (cw 4 (elN m y) ++ cw 4 (elN m z)), 117), (gb, bs (List.replicate 33 0), 5), (g6, cw 4 (elN m i), 66), (g7, cw 4 (elN m ii), 66), (g8, cw 4 v, 111)]) (F := ?_) (fun key => ?_) ?_
 rotate_left 1
 ·skip
  refine lH rfl rfl rfl rfl ?_ ?_
  ·skip
   go_simp
   refine (fO m gp _ HOK.out (HPM.out.keep hd17.fr id) ii i i3 Hi3.out).mono ?_
   rintro e' w18 ⟨rfl, hf18⟩
   have st18 := hd17.keep hf18
   clear hf18
   refine ⟨st18, ?_⟩
   try simp only [J]
   refine lH rfl rfl rfl rfl ?_ ?_
   ·skip
    go_simp
    refine (fO m gp _ HOK.out (HPM.out.keep st18.fr id) y i3 yy Hyy.out).mono ?_
    rintro e' w19 ⟨rfl, hf19⟩
    have st19 := st18.keep hf19
    clear hf19
    refine ⟨st19, ?_⟩
    try simp only [J]
    refine lH rfl rfl rfl rfl ?_ ?_
    ·skip
     go_simp
     refine (vA m gp _ HOK.out (HPM.out.keep st19.fr id) yy v Hv.out).mono ?_
     rintro e' w20 ⟨rfl, hf20⟩
     have st20 := st19.keep hf20
     clear hf20
     refine ⟨st20, ?_⟩
     try simp only [J]
     refine bC rfl rfl ?_
     refine cH st20 rfl (z := zAd) Aa (cw 4 0) Af ?_
     intro g8 w21 st21
     refine ⟨St.less st21 Ae, ?_⟩
     try simp only [J]
     refine aU rfl rfl ?_
     refine aG st21 4 rfl rfl rfl rfl Ah Ad (aF _ _) ?_
     intro w22 st22
     try simp only [Act.put]
     refine aH ?_
     exact key g8 _ st22
    ·skip
     refine cH st19 rfl (z := zAd) Aa (cw 4 0) Af ?_
     intro g8 w23 st23
     refine ⟨St.less st23 Ae, ?_⟩
     try simp only [J]
     refine bC rfl rfl ?_
     go_simp
     refine (vA m gp _ HOK.out (HPM.out.keep st23.fr id) yy v Hv.out).mono ?_
     rintro e' w24 ⟨rfl, hf24⟩
     have st24 := st23.keep hf24
     clear hf24
     refine ⟨St.less st24 Ae, ?_⟩
     try simp only [J]
     refine aU rfl rfl ?_
     refine aG st24 4 rfl rfl rfl rfl Ah Ad (aF _ _) ?_
     intro w25 st25
     try simp only [Act.put]
     refine aH ?_
     exact key g8 _ st25
   ·skip
    refine cH st18 rfl (z := zAd) Aa (cw 4 0) Af ?_
    intro g8 w26 st26
    refine ⟨St.less st26 Ae, ?_⟩
    try simp only [J]
    refine bC rfl rfl ?_
    go_simp
    refine (fO m gp _ HOK.out (HPM.out.keep st26.fr id) y i3 yy Hyy.out).mono ?_
    rintro e' w27 ⟨rfl, hf27⟩
    have st27 := st26.keep hf27
    clear hf27
    refine ⟨St.less st27 Ae, ?_⟩
    try simp only [J]
    refine bC rfl rfl ?_
    go_simp
    refine (vA m gp _ HOK.out (HPM.out.keep st27.fr id) yy v Hv.out).mono ?_
    rintro e' w28 ⟨rfl, hf28⟩
    have st28 := st27.keep hf28
    clear hf28
    refine ⟨St.less st28 Ae, ?_⟩
    try simp only [J]
    refine aU rfl rfl ?_
    refine aG st28 4 rfl rfl rfl rfl Ah Ad (aF _ _) ?_
    intro w29 st29
    try simp only [Act.put]
    refine aH ?_
    exact key g8 _ st29
  ·skip
   refine cH hd17 rfl (z := zAd) Aa (cw 4 0) Af ?_
   intro g8 w30 st30
   refine ⟨St.less st30 Ae, ?_⟩
   try simp only [J]
   refine bC rfl rfl ?_
   go_simp
   refine (fO m gp _ HOK.out (HPM.out.keep st30.fr id) ii i i3 Hi3.out).mono ?_
   rintro e' w31 ⟨rfl, hf31⟩
   have st31 := st30.keep hf31
   clear hf31
   refine ⟨St.less st31 Ae, ?_⟩
   try simp only [J]
   refine bC rfl rfl ?_
   go_simp
   refine (fO m gp _ HOK.out (HPM.out.keep st31.fr id) y i3 yy Hyy.out).mono ?_
   rintro e' w32 ⟨rfl, hf32⟩
   have st32 := st31.keep hf32
   clear hf32
   refine ⟨St.less st32 Ae, ?_⟩
   try simp only [J]
   refine bC rfl rfl ?_
   go_simp
   refine (vA m gp _ HOK.out (HPM.out.keep st32.fr id) yy v Hv.out).mono ?_
   rintro e' w33 ⟨rfl, hf33⟩
   have st33 := st32.keep hf33
   clear hf33
   refine ⟨St.less st33 Ae, ?_⟩
   try simp only [J]
   refine aU rfl rfl ?_
   refine aG st33 4 rfl rfl rfl rfl Ah Ad (aF _ _) ?_
   intro w34 st34
   try simp only [Act.put]
   refine aH ?_
   exact key g8 _ st34
 intro g8 w35 st35
 have st35 : St Nob w w35 [(g3, cw 4 (elN m x) ++ (cw 4 (elN m y) ++ cw 4 (elN m z)), 117), (gb, bs (List.replicate 33 0), 5), (g6, cw 4 (elN m i), 66), (g7, cw 4 (elN m ii), 66), (g8, cw 4 v, 111)] := st35
 clear hd17
 refine NoPanic.normal ?_
 have c1 := (st35.at 4 rfl).cell (bL 4 v 0 Ac)
 obtain ⟨v3, c3, f3⟩ := (st35.at 1 rfl).ready (i := 0) (by rw [bP, List.length_replicate]; decide)
 have ha := uK v
 have hb2 : v % 2 = 0 ∨ v % 2 = 1 := by omega
 generalize hbv : v % 2 = b at *
 have HBV := qH hbv
 clear hbv
 have ho := r0h b hb2
 have hw8 : IntKind.u8.wrap (b : Int) = (b : Int) := by rcases hb2 with rfl | rfl <;> decide
 have hst2 := st35.set 1 rfl 0 (.int .u8 ((2 + b : Nat) : Int))
 rw [i0U (2 + b) Ab] at hst2
 have hw16 : IntKind.u8.wrap ((2 + b : Nat) : Int) = ((2 + b : Nat) : Int) := by rcases hb2 with rfl | rfl <;> decide
 have HB2 := qH hb2
 clear hb2
 go_wp2_with fail
 have st36 : St Nob w _ [(g3, cw 4 (elN m x) ++ (cw 4 (elN m y) ++ cw 4 (elN m z)), 117), (gb, bb1 (2 + b), 5), (g6, cw 4 (elN m i), 66), (g7, cw 4 (elN m ii), 66), (g8, cw 4 v, 111)] := hst2
 clear st35 hst2 c1 c3 f3 ha ho hw8 hw16
 go_wp2_with fail
 refine wp_region_noPanic ?_
 refine aP (fun wx => St Nob w wx [(g3, cw 4 (elN m x) ++ (cw 4 (elN m y) ++ cw 4 (elN m z)), 117), (gb, bb1 (2 + b), 5), (g6, cw 4 (elN m i), 66), (g7, cw 4 (elN m ii), 66), (g8, cw 4 v, 111)]) 15 (.w 0 (.w 1 (.w 2 (.w 3 (.t 4 (.w 5 (.w 6 (.w 7 (.t 8 (.w 9 (.t 10 (.t 11 (.r 12 (.r 13 (.r 14 (.m 15 (.w 16 .nil))))))))))))))))) Aa Aa st36.drew (fun _ _ _ _ _ h => h) ?_
 have hd36 := st36.drew
 clear st36
 refine aJ rfl rfl apW ?_
 try simp only [J]
 refine aJ rfl rfl apW ?_
 try simp only [J]
 refine aJ rfl rfl apW ?_
 try simp only [J]
 refine aJ rfl rfl apW ?_
 try simp only [J]
 refine jY (v := ?_) rfl rfl (fun wx hS => ?_) ?_
 rotate_left 1
 ·(have hc := (HCV.out.keep (St.fr hS) id).cell (i := 0) rfl; clear hS; go_simp; with_reducible rfl)
 try simp only [J]
 refine aJ rfl rfl apW ?_
 try simp only [J]
 refine aJ rfl rfl apW ?_
 try simp only [J]
 refine aJ rfl rfl apW ?_
 try simp only [J]
 refine jY (v := ?_) rfl rfl (fun wx hS => ?_) ?_
 rotate_left 1
 ·(have hc := (HCV.out.keep (St.fr hS) id).cell (i := 0) rfl; clear hS; go_simp; with_reducible rfl)
 try simp only [J]
 refine aJ rfl rfl apW ?_
 try simp only [J]
 refine aV rfl rfl rfl rfl (cw 4 (elN m x)) (fun wx hS => St.rangeL hS 0 rfl 0 _ (vS _ _ _)) underlying66 rfl Ad ?_
 try simp only [J]
 refine aV rfl rfl rfl rfl (cw 4 (elN m ii)) (fun wx hS => St.rangeL hS 3 rfl 0 _ dZl) underlying66 rfl Ad ?_
 try simp only [J]
 refine bC rfl rfl ?_
 go_simp
 refine (fO m gp _ HOK.out (HPM.out.keep hd36.fr id) x ii xx Hxx.out).mono ?_
 rintro e' w37 ⟨rfl, hf37⟩
 have st37 := hd36.keep hf37
 clear hf37
 clear hd36
 refine ⟨st37, ?_⟩
 try simp only [J]
 refine bC rfl rfl ?_
 go_simp
 refine (vA m gp _ HOK.out (HPM.out.keep st37.fr id) xx u Hu.out).mono ?_
 rintro e' w38 ⟨rfl, hf38⟩
 have st38 := st37.keep hf38
 clear hf38
 clear st37
 refine ⟨st38, ?_⟩
 try simp only [J]
 refine bC rfl rfl ?_
 go_simp
 refine (xB u _).mono ?_
 rintro e' w39 ⟨vb, rfl, hownb, hf39⟩
 have st39 := st38.keep hf39
 obtain ⟨va, vc, rfl, -, hrd, -⟩ := hownb.form
 clear hownb
 clear hf39
 clear st38
 refine ⟨st39, ?_⟩
 try simp only [J]
 refine aU rfl rfl ?_
 refine b0S st39 1 rfl rfl underlying22 dT (n := 1) (m := 32) (cap := 33) rfl rfl hrd (wM _) Ac (by have := o0W (2 + b); omega) (bb2 (2 + b) u) (b0T _ _) ?_
 intro w40 st40
 have st40 : St Nob w w40 [(g3, cw 4 (elN m x) ++ (cw 4 (elN m y) ++ cw 4 (elN m z)), 117), (gb, bb2 (2 + b) u, 5), (g6, cw 4 (elN m i), 66), (g7, cw 4 (elN m ii), 66), (g8, cw 4 v, 111)] := st40
 clear st39 hrd
 try simp only [J]
 refine aJ rfl rfl apW ?_
 try simp only [J]
 refine aH ?_
 refine NoPanic.normal ?_
 have hown : Own w40 w.heap.size 5 1 (.slice (some ⟨gb, 0, none⟩) 33 33) 33 (bb2 (2 + b) u) := by
  have h := st40.at 1 rfl
  have h2 := Own.made h w.heap.size HBB.out 1 33 33 (Nat.le_refl _) Al (by have := i0T (2 + b) u; omega)
  rwa [List.take_of_length_le (by have := i0T (2 + b) u; omega)] at h2
 have hfr := st40.fr
 clear st40
 go_wp2_with fail
 go_ret
 exact ⟨_, rfl, by rw [HBV.out]; unfold bb2 at hown; exact hown, hfr⟩
end
end Go.Proofs.YtemcankmggmgoaaGreat
namespace Go.Mv
open Go.RowKit
section
variable {P : Program} {ops : Array Oper} {md : Region.Mode} {Q : Exit → Act → World → Prop} {S : World → Prop} {m : Nat}
def eA (P : Program) (ops : Array Oper) (Q : Exit → Act → World → Prop) (S : World → Prop) : Pl → Act → World → Prop
 | .nil, a, w => Q .normal a w
 | .w i s, a, w => ∃ o v, ops[i]? = some o ∧ YieldsIf P ops (fun _ => True) o v a ∧ eA P ops Q S s (a.put o.dst v) w
 | .t i s, a, w => ∃ o v, ops[i]? = some o ∧ YieldsIf P ops S o v a ∧ eA P ops Q S s (a.put o.dst v) w
 | .r i s, a, w => wpOp P ops Q i (fun a' w' => S w' ∧ eA P ops Q S s a' w') a w
 | .m i s, a, w => wpOp P ops Q i (fun a' w' => eA P ops Q S s a' w') a w
 | .b _ _ _ _, _, _ => False
 | .c _ _ _ _ _ _, _, _ => False
theorem iI (hsel : Region.noSelect ops = true) (hm : m < ops.size) (hQ : ∀ c (d : Option Tmp) v a w, Q (.panic c) (Act.put a d v) w → Q (.panic c) a w) :
  ∀ (s : Pl) (listed : Array Bool) (a : Act) (w : World), Cl md ops listed → eO md ops m s listed = true → (listed.getD m true = false → S w) → eA P ops Q S s a w → wpP P md ops Q S m s.len listed a w
 | .nil, listed, a, w, _, hB, _, h => ⟨by simpa [eO] using hB, h⟩
 | .w i r, listed, a, w, inv, hB, hS, h => by
  obtain ⟨o, v, ho, hy, hK⟩ := h
  simp only [eO, Bool.and_eq_true, decide_eq_true_eq] at hB
  obtain ⟨⟨⟨him, hr⟩, hf⟩, hB'⟩ := hB
  have hr' : i ∈ Region.ready md ops listed := by simpa using hr
  exact pH ho (Region.noSelect_spec hsel) (fun c a w => hQ c o.dst v a w) him hm r.len listed a w inv (Region.free_spec ho hf) hr' hy hS
   (iI hsel hm hQ r _ _ w (inv.set hr') hB' (fun h => hS (by rwa [getD_set_ne true him] at h)) hK)
 | .t i r, listed, a, w, inv, hB, hS, h => by
  obtain ⟨o, v, ho, hy, hK⟩ := h
  simp only [eO, Bool.and_eq_true, decide_eq_true_eq] at hB
  obtain ⟨⟨⟨⟨⟨him, hml⟩, hr⟩, hf⟩, han⟩, hB'⟩ := hB
  have hr' : i ∈ Region.ready md ops listed := by simpa using hr
  exact uG ho (Region.noSelect_spec hsel) (fun c a w => hQ c o.dst v a w) him han r.len listed a w inv hml (Region.free_spec ho hf) hr' hy (hS hml)
   (iI hsel hm hQ r _ _ w (inv.set hr') hB' (fun _ => hS hml) hK)
 | .r i r, listed, a, w, inv, hB, hS, h => by
  simp only [eO, Bool.and_eq_true, decide_eq_true_eq] at hB
  obtain ⟨⟨⟨him, hml⟩, hr⟩, hB'⟩ := hB
  have hr' : i ∈ Region.ready md ops listed := by rw [hr]; simp
  refine ⟨fun h0 => (by rw [hr] at h0; cases h0), fun j hj => ?_⟩
  rw [hr] at hj
  have hj' : j = i := by simpa using hj
  subst hj'
  exact wpOp_mono (fun a' w' h' => ⟨fun _ _ => h'.1, iI hsel hm hQ r _ a' w' (inv.set hr') hB' (fun _ => h'.1) h'.2⟩) h
 | .m i r, listed, a, w, inv, hB, hS, h => by
  simp only [eO, Bool.and_eq_true, Bool.or_eq_true, decide_eq_true_eq] at hB
  obtain ⟨⟨him, hr⟩, hB'⟩ := hB
  have hr' : i ∈ Region.ready md ops listed := by rw [hr]; simp
  refine ⟨fun h0 => (by rw [hr] at h0; cases h0), fun j hj => ?_⟩
  rw [hr] at hj
  have hj' : j = i := by simpa using hj
  subst hj'
  have hml : (listed.setIfInBounds j true).getD m true = true := by
   rcases him with e | e
   ·subst e; exact eE (by rw [inv.size]; exact hm)
   ·by_cases e2 : j = m
    ·subst e2; exact eE (by rw [inv.size]; exact hm)
    ·rw [getD_set_ne true e2]; exact e
  refine wpOp_mono (fun a' w' h' => ⟨fun h1 h2 => ?_, iI hsel hm hQ r _ a' w' (inv.set hr') hB' (fun h1 => by rw [hml] at h1; cases h1) h'⟩) h
  rcases him with e | e
  ·exact absurd e h2
  ·rw [e] at h1; cases h1
 | .b _ _ _ _, _, _, _, _, _, _, h => h.elim
 | .c _ _ _ _ _ _, _, _, _, _, _, _, h => h.elim
theorem cW {id : Nat} {a : Act} {w : World} {l : List Oper} (S : World → Prop) (m : Nat) (s : Pl) (hm : P.follows .mixedOrders = true) (hB : zJ l.toArray m s = true)
  (hS : S w.drew) (hQ : ∀ c (d : Option Tmp) v a w, Q (.panic c) (Act.put a d v) w → Q (.panic c) a w)
  (h : eA P l.toArray Q S s a w.drew) : (Code.region id l.toArray true).wp P Q a w := by
 simp only [zJ, Bool.and_eq_true, decide_eq_true_eq] at hB
 obtain ⟨⟨⟨hsel, hms⟩, hlen⟩, hseq⟩ := hB
 have inv0 : Cl .any l.toArray (Array.replicate l.toArray.size false) :=
  ⟨by simp, fun j oj _ hl => (by rw [getD_replicate_false] at hl; cases hl)⟩
 have H := iI (md := .any) hsel hms hQ s _ a w.drew inv0 hseq (fun _ => hS) h
 rw [hlen] at H
 exact wp_region_any hm (jC _ _ _ _ H)
variable {l : List Oper} {i : Nat} {s : Pl} {a : Act} {w : World} {o : Oper}
theorem gN (h : Q .normal a w) : eA P ops Q S .nil a w := h
theorem aQ (ho : l[i]? = some o) (hg : Region.wanted o (yielded l.toArray a.tmps) = true) {v : Value} (hv : ∀ wx, (execOp a.eval o).run P wx = .ok (.value v) wx) (h : eA P l.toArray Q S s (a.put o.dst v) w) : eA P l.toArray Q S (.w i s) a w :=
 ⟨o, v, by simpa using ho, .inl ⟨hg, fun wx _ => hv wx⟩, h⟩
theorem cG (ho : l[i]? = some o) (hg : Region.wanted o (yielded l.toArray a.tmps) = false) (h : eA P l.toArray Q S s (a.put o.dst undef) w) : eA P l.toArray Q S (.w i s) a w :=
 ⟨o, undef, by simpa using ho, .inr ⟨hg, rfl⟩, h⟩
theorem eT (ho : l[i]? = some o) (hg : Region.wanted o (yielded l.toArray a.tmps) = false) (h : eA P l.toArray Q S s (a.put o.dst undef) w) : eA P l.toArray Q S (.t i s) a w :=
 ⟨o, undef, by simpa using ho, .inr ⟨hg, rfl⟩, h⟩
theorem iN (ho : l[i]? = some o) (hg : Region.wanted o (yielded l.toArray a.tmps) = true) {v : Value} (hv : ∀ wx, S wx → (execOp a.eval o).run P wx = .ok (.value v) wx) (h : eA P l.toArray Q S s (a.put o.dst v) w) : eA P l.toArray Q S (.t i s) a w :=
 ⟨o, v, by simpa using ho, .inl ⟨hg, hv⟩, h⟩
theorem bY (ho : l[i]? = some o) (hg : Region.wanted o (yielded l.toArray a.tmps) = true) {ty : TypeId} {x : Operand} (hop : o.op = .load ty x) {g p : Nat} (hx : a.eval x = .pointer (some ⟨g, p, none⟩)) (cs : List Value) (hS : ∀ wx, S wx → wx.rangeAt g p cs)
  {d : TypeDesc} (hu : P.underlying ty = some d) (hd : d.isRow = true) (hi : (P.info? ty).map (·.size) = some cs.length) (h : eA P l.toArray Q S s (a.put o.dst (.agg cs.toArray)) w) : eA P l.toArray Q S (.t i s) a w :=
 ⟨o, _, by simpa using ho, yieldsIf_load_mid hg ty x hop g p hx cs d hS hu hd hi, h⟩
theorem eV (ho : l[i]? = some o) (hg : Region.wanted o (yielded l.toArray a.tmps) = true) (h : o.wp P a w (fun a' w' => S w' ∧ eA P l.toArray Q S s a' w') Q) : eA P l.toArray Q S (.r i s) a w := by
 have ho' : l.toArray[i]? = some o := by simpa using ho
 show wpOp _ _ _ _ _ _ _
 unfold wpOp
 simp only [ho']
 rw [if_pos hg]
 exact .inl h
theorem jO (ho : l[i]? = some o) (hg : Region.wanted o (yielded l.toArray a.tmps) = false) (h : S w ∧ eA P l.toArray Q S s (a.put o.dst undef) w) : eA P l.toArray Q S (.r i s) a w := by
 have ho' : l.toArray[i]? = some o := by simpa using ho
 show wpOp _ _ _ _ _ _ _
 unfold wpOp
 simp only [ho']
 rw [if_neg (by rw [hg]; decide)]
 exact h
theorem lP (ho : l[i]? = some o) (hg : Region.wanted o (yielded l.toArray a.tmps) = true) (h : o.wp P a w (fun a' w' => eA P l.toArray Q S s a' w') Q) : eA P l.toArray Q S (.m i s) a w := by
 have ho' : l.toArray[i]? = some o := by simpa using ho
 show wpOp _ _ _ _ _ _ _
 unfold wpOp
 simp only [ho']
 rw [if_pos hg]
 exact .inl h
end
end Go.Mv
