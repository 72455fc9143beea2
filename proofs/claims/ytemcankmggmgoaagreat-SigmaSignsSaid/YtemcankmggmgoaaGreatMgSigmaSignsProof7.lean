/- ; ; ; ; ; ; ; ; ; ; ; ; ; ; ; ; ; ; . -/
import Derived.Test.YtemcankmggmgoaaGreatMgSigmaSignsProof6
import Derived.Test.YtemcankmggmgoaaGreatMgSigmaSignsProof1
import Derived.Test.YtemcankmggmgoaaGreatMgSigmaSignsProof4
import Derived.Test.YtemcankmggmgoaaGreatMgSigmaSignsProof2
import Derived.IntWalk
import Derived.Test.YtemcankmggmgoaaGreatMgSigmaSignsProof5
import Derived.Deep.DeepCutAuto
set_option maxHeartbeats 16000000
set_option maxRecDepth 1000000

namespace Go.Proofs.YtemcankmggmgoaaGreat
open Go.RowKit Go.Mv Mvp Mvq
theorem n0R (n : Nat) : List.replicate n (Value.int .u8 0) = bs (List.replicate n 0) := by simp [bs]
theorem r0u : splice (bs (List.replicate 33 0)) 1 (List.replicate 32 (Value.int .u8 0)) = bs (List.replicate 33 0) := by rfl
def bb1 (b : Nat) : List Value := bs ([UInt8.ofNat b] ++ List.replicate 32 0)
def bb2 (b X : Nat) : List Value := bs (UInt8.ofNat b :: b0i X)
theorem w0D (b : Nat) : (bb1 b).length = 33 := by unfold bb1; rw [a0G]; simp
theorem r0v (b X : Nat) : (bb2 b X).length = 33 := by unfold bb2; rw [a0G, List.length_cons, a0W]
theorem l0F (b X : Nat) : splice (bb1 b) 1 (bs (b0i X)) = bb2 b X := by
 unfold bb1 bb2
 rw [c0L, i0P _ _ _ 1 (by simp [bs]) (by rw [a0G, a0G, a0W]; rfl), ← c0L]; rfl
theorem r0w (b : Nat) (hb : b < 256) : (bs (List.replicate 33 0)).set 0 (.int .u8 (b : Int)) = bb1 b := by
 unfold bb1
 have h := f0d (List.replicate 33 0) 0 (UInt8.ofNat b)
 rw [show ((UInt8.ofNat b).toNat : Int) = (b : Int) by rw [UInt8.toNat_ofNat']; omega] at h
 rw [h]; rfl
theorem y0B (b : Nat) (h : b = 0 ∨ b = 1) : bits .or .u8 2 (b : Int) = ((2 + b : Nat) : Int) := by
 rcases h with rfl | rfl <;> decide
attribute [local irreducible] a0F lw mix cw b0n b0v b0k a0M a0q beN b0C b0i b0z a0J a0R elN mdL b0o rtN rtV b0T gXn gYn bb1 bb2
theorem p0h (m : Md) (gc gp bx by_ : Nat) (w : World) (hok : m.Ok) (hcv : Has w gc (e0S m gp bx by_) 125) (hpm : Has w gp (mdL m) 187) (x y z : Nat) (hb : (z % m.M == 0) = true) :
  Calls Tryz.prog 88 #[.pointer (some ⟨gc, 0, none⟩), ptV m x y z] w fun e w' => ∃ sv, e = .returned sv ∧ Own w' w.heap.size 5 1 sv 33 (bs (List.replicate 33 0)) ∧ Fr Nob w w' := by
 have HOK := qH hok
 have HCV := qH hcv
 have HPM := qH hpm
 clear hok hcv hpm
 have HB := qH hb
 clear hb
 unfold ptV ptL
 have st0 := St.start Nob w
 go_enter Tryz.func88, Tryz.ntmps88
 go_wp2_with (with_reducible refine wSk 3 ?_)
 refine a0m st0 rfl rfl rfl (cw 4 (elN m x) ++ (cw 4 (elN m y) ++ cw 4 (elN m z))) rfl ?_
 intro g3 w1 st1
 clear st0
 go_wp2_with (with_reducible refine wSk 9 ?_)
 refine c0o rfl rfl Tryz.underlying22 b0I rfl rfl rfl 1 33 (by simp) (by simp) (by omega) (by omega) (by unfold maxLen; omega) ?_
 intro w2 hg2 hf2 hz2
 clear hz2
 have st2 := st1.new hf2 hg2 (Nat.le_refl _)
 have hb2 := st1.fr.size
 skip
 clear st1 hg2 hf2
 generalize w1.heap.size = gb at *
 have HBB := qH hb2
 clear hb2
 rw [n0R] at st2
 go_wp2_with (with_reducible refine wSk 10 ?_)
 refine a0p st2 0 rfl rfl rfl Tryz.underlying117 rfl rfl (by first | (rw [a0a]; kernel_rfl) | (simp only [List.length_append, a0a]; kernel_rfl)) ?_
 go_wp2_with fail
 refine (d0c m HOK.out x y z true HB.out _).mono ?_
 rintro e' w3 ⟨rfl, hf3⟩
 have st3 := st2.keep hf3
 clear st2 hf3
 go_wp2_with (with_reducible refine wSk 13 ?_)
 refine h0X st3 1 rfl rfl rfl Tryz.underlying22 Tryz.underlying3 b0I rfl rfl (n := 1) (m := 32) (cap := 33) rfl rfl (by decide) (by decide) (by decide) (by rw [a0G, List.length_replicate]; decide) (bs (List.replicate 33 0)) r0u ?_
 intro w4 st4
 clear st3
 have hown : Own w4 w.heap.size 5 1 (.slice (some ⟨gb, 0, none⟩) 33 33) 33 (bs (List.replicate 33 0)) := by
  have h := st4.at 1 rfl
  exact Own.made h w.heap.size HBB.out 1 33 33 (Nat.le_refl _) (by unfold maxLen; omega) (by decide)
 have hfr := st4.fr
 clear st4
 go_wp2_with fail
 go_ret
 exact ⟨_, rfl, hown, hfr⟩
theorem v0b (m : Md) (gp : Nat) (w : World) (hok : m.Ok) (hpm : Has w gp (mdL m) 187) (x r : Nat) (hr : x ^ (m.M - 2) = r) :
  Calls Tryz.prog 150 #[.pointer (some ⟨gp, 0, none⟩), i4 (elN m x)] w fun e w' => e = .returned (i4 (elN m r)) ∧ Fr Nob w w' := by
 subst hr; exact t0e m gp w hok hpm x
theorem h0Y (m : Md) (gp : Nat) (w : World) (hok : m.Ok) (hpm : Has w gp (mdL m) 187) (x r : Nat) (hr : x % m.M = r) :
  Calls Tryz.prog 120 #[.pointer (some ⟨gp, 0, none⟩), i4 (elN m x)] w fun e w' => e = .returned (i4 r) ∧ Fr Nob w w' := by
 subst hr; exact e0t m gp w hok hpm x
theorem w0E (m : Md) (gc gp bx by_ : Nat) (w : World) (hok : m.Ok) (hcv : Has w gc (e0S m gp bx by_) 125) (hpm : Has w gp (mdL m) 187) (x y z : Nat) (hb : (z % m.M == 0) = false) (i ii i3 yy v xx u : Nat) (ei : z ^ (m.M - 2) = i) (eii : i * i = ii) (ei3 : ii * i = i3) (eyy : y * i3 = yy) (ev : yy % m.M = v) (exx : x * ii = xx) (eu : xx % m.M = u) :
  Calls Tryz.prog 88 #[.pointer (some ⟨gc, 0, none⟩), ptV m x y z] w fun e w' => ∃ sv, e = .returned sv ∧ Own w' w.heap.size 5 1 sv 33 (bs (UInt8.ofNat (2 + v % 2) :: b0i u)) ∧ Fr Nob w w' := by
 have HOK := qH hok
 have HCV := qH hcv
 have HPM := qH hpm
 clear hok hcv hpm
 have HB := qH hb
 have Hi := qH ei
 have Hii := qH eii
 have Hi3 := qH ei3
 have Hyy := qH eyy
 have Hv := qH ev
 have Hxx := qH exx
 have Hu := qH eu
 clear hb ei eii ei3 eyy ev exx eu
 unfold ptV ptL
 have st0 := St.start Nob w
 go_enter Tryz.func88, Tryz.ntmps88
 go_wp2_with (with_reducible refine wSk 3 ?_)
 refine a0m st0 rfl rfl rfl (cw 4 (elN m x) ++ (cw 4 (elN m y) ++ cw 4 (elN m z))) rfl ?_
 intro g3 w1 st1
 clear st0
 go_wp2_with (with_reducible refine wSk 9 ?_)
 refine c0o rfl rfl Tryz.underlying22 b0I rfl rfl rfl 1 33 (by simp) (by simp) (by omega) (by omega) (by unfold maxLen; omega) ?_
 intro w2 hg2 hf2 hz2
 clear hz2
 have st2 := st1.new hf2 hg2 (Nat.le_refl _)
 have hb2 := st1.fr.size
 skip
 clear st1 hg2 hf2
 generalize w1.heap.size = gb at *
 have HBB := qH hb2
 clear hb2
 rw [n0R] at st2
 go_wp2_with (with_reducible refine wSk 10 ?_)
 refine a0p st2 0 rfl rfl rfl Tryz.underlying117 rfl rfl (by first | (rw [a0a]; kernel_rfl) | (simp only [List.length_append, a0a]; kernel_rfl)) ?_
 go_wp2_with fail
 refine (d0c m HOK.out x y z false HB.out _).mono ?_
 rintro e' w3 ⟨rfl, hf3⟩
 have st3 := st2.keep hf3
 clear st2 hf3
 go_wp2_with fail
 refine wp_region_noPanic ?_
 refine a0o (fun wx => St Nob w wx [(g3, cw 4 (elN m x) ++ (cw 4 (elN m y) ++ cw 4 (elN m z)), 117), (gb, bs (List.replicate 33 0), 5)]) 8 (.w 0 (.w 1 (.w 2 (.t 3 (.w 4 (.t 5 (.b 6 7 (.r 7 (.m 8 .nil)) (.r 6 (.m 8 .nil))))))))) (by kernel_rfl) (by kernel_rfl) st3.drew (fun _ _ _ _ _ h => h) ?_
 have hd3 := st3.drew
 clear st3
 refine a0l (v := ?_) rfl rfl (fun wx => ?_) ?_
 rotate_left 1
 ·(go_simp; with_reducible rfl)
 try simp only [clL]
 refine a0l (v := ?_) rfl rfl (fun wx => ?_) ?_
 rotate_left 1
 ·(go_simp; with_reducible rfl)
 try simp only [clL]
 refine a0l (v := ?_) rfl rfl (fun wx => ?_) ?_
 rotate_left 1
 ·(go_simp; with_reducible rfl)
 try simp only [clL]
 refine d0v (v := ?_) rfl rfl (fun wx hS => ?_) ?_
 rotate_left 1
 ·(have hc := (HCV.out.keep (St.fr hS) id).cell (i := 0) rfl; clear hS; go_simp; with_reducible rfl)
 try simp only [clL]
 refine a0l (v := ?_) rfl rfl (fun wx => ?_) ?_
 rotate_left 1
 ·(go_simp; with_reducible rfl)
 try simp only [clL]
 refine a0s rfl rfl rfl rfl (cw 4 (elN m z)) (fun wx hS => St.rangeL hS 0 rfl 8 _ (f0E _ _ _)) Tryz.underlying66 rfl (by first | (rw [a0a]; kernel_rfl) | (simp only [List.length_append, a0a]; kernel_rfl)) ?_
 try simp only [clL]
 refine d0O (C := fun g6 wz => St Nob w wz [(g3, cw 4 (elN m x) ++ (cw 4 (elN m y) ++ cw 4 (elN m z)), 117), (gb, bs (List.replicate 33 0), 5), (g6, cw 4 (elN m i), 66)]) (F := ?_) (fun key => ?_) ?_
 rotate_left 1
 ·skip
  refine d0k rfl rfl rfl rfl ?_ ?_
  ·skip
   go_simp
   refine (v0b m gp _ HOK.out (HPM.out.keep hd3.fr id) z i Hi.out).mono ?_
   rintro e' w4 ⟨rfl, hf4⟩
   have st4 := hd3.keep hf4
   clear hf4
   refine ⟨st4, ?_⟩
   try simp only [clL]
   refine a0A rfl rfl ?_
   refine b0f st4 rfl (z := zAd) (by kernel_rfl) (cw 4 0) (by rw [a0e]; rfl) ?_
   intro g6 w5 st5
   refine ⟨St.less st5 (by simp), ?_⟩
   try simp only [clL]
   refine a0r rfl rfl ?_
   refine a0j st5 2 rfl rfl rfl rfl (by first | (simp only [a0a]; done) | (simp only [List.length_append, a0a]; done)) (by first | (rw [a0a]; kernel_rfl) | (simp only [List.length_append, a0a]; kernel_rfl)) (a0g _ _) ?_
   intro w6 st6
   try simp only [Act.put]
   refine a0k ?_
   exact key g6 _ st6
  ·skip
   refine b0f hd3 rfl (z := zAd) (by kernel_rfl) (cw 4 0) (by rw [a0e]; rfl) ?_
   intro g6 w7 st7
   refine ⟨St.less st7 (by simp), ?_⟩
   try simp only [clL]
   refine a0A rfl rfl ?_
   go_simp
   refine (v0b m gp _ HOK.out (HPM.out.keep st7.fr id) z i Hi.out).mono ?_
   rintro e' w8 ⟨rfl, hf8⟩
   have st8 := st7.keep hf8
   clear hf8
   refine ⟨St.less st8 (by simp), ?_⟩
   try simp only [clL]
   refine a0r rfl rfl ?_
   refine a0j st8 2 rfl rfl rfl rfl (by first | (simp only [a0a]; done) | (simp only [List.length_append, a0a]; done)) (by first | (rw [a0a]; kernel_rfl) | (simp only [List.length_append, a0a]; kernel_rfl)) (a0g _ _) ?_
   intro w9 st9
   try simp only [Act.put]
   refine a0k ?_
   exact key g6 _ st9
 intro g6 w10 st10
 have st10 : St Nob w w10 [(g3, cw 4 (elN m x) ++ (cw 4 (elN m y) ++ cw 4 (elN m z)), 117), (gb, bs (List.replicate 33 0), 5), (g6, cw 4 (elN m i), 66)] := st10
 clear hd3
 refine NoPanic.normal ?_
 go_wp2_with fail
 refine wp_region_noPanic ?_
 refine a0o (fun wx => St Nob w wx [(g3, cw 4 (elN m x) ++ (cw 4 (elN m y) ++ cw 4 (elN m z)), 117), (gb, bs (List.replicate 33 0), 5), (g6, cw 4 (elN m i), 66)]) 7 (.w 0 (.w 1 (.w 2 (.t 3 (.t 4 (.b 5 6 (.r 6 (.m 7 .nil)) (.r 5 (.m 7 .nil)))))))) (by kernel_rfl) (by kernel_rfl) st10.drew (fun _ _ _ _ _ h => h) ?_
 have hd10 := st10.drew
 clear st10
 refine a0l (v := ?_) rfl rfl (fun wx => ?_) ?_
 rotate_left 1
 ·(go_simp; with_reducible rfl)
 try simp only [clL]
 refine a0l (v := ?_) rfl rfl (fun wx => ?_) ?_
 rotate_left 1
 ·(go_simp; with_reducible rfl)
 try simp only [clL]
 refine a0l (v := ?_) rfl rfl (fun wx => ?_) ?_
 rotate_left 1
 ·(go_simp; with_reducible rfl)
 try simp only [clL]
 refine d0v (v := ?_) rfl rfl (fun wx hS => ?_) ?_
 rotate_left 1
 ·(have hc := (HCV.out.keep (St.fr hS) id).cell (i := 0) rfl; clear hS; go_simp; with_reducible rfl)
 try simp only [clL]
 refine a0s rfl rfl rfl rfl (cw 4 (elN m i)) (fun wx hS => St.rangeL hS 2 rfl 0 _ dZl) Tryz.underlying66 rfl (by first | (rw [a0a]; kernel_rfl) | (simp only [List.length_append, a0a]; kernel_rfl)) ?_
 try simp only [clL]
 refine d0O (C := fun g7 wz => St Nob w wz [(g3, cw 4 (elN m x) ++ (cw 4 (elN m y) ++ cw 4 (elN m z)), 117), (gb, bs (List.replicate 33 0), 5), (g6, cw 4 (elN m i), 66), (g7, cw 4 (elN m ii), 66)]) (F := ?_) (fun key => ?_) ?_
 rotate_left 1
 ·skip
  refine d0k rfl rfl rfl rfl ?_ ?_
  ·skip
   go_simp
   refine (b0K m gp _ HOK.out (HPM.out.keep hd10.fr id) i ii Hii.out).mono ?_
   rintro e' w11 ⟨rfl, hf11⟩
   have st11 := hd10.keep hf11
   clear hf11
   refine ⟨st11, ?_⟩
   try simp only [clL]
   refine a0A rfl rfl ?_
   refine b0f st11 rfl (z := zAd) (by kernel_rfl) (cw 4 0) (by rw [a0e]; rfl) ?_
   intro g7 w12 st12
   refine ⟨St.less st12 (by simp), ?_⟩
   try simp only [clL]
   refine a0r rfl rfl ?_
   refine a0j st12 3 rfl rfl rfl rfl (by first | (simp only [a0a]; done) | (simp only [List.length_append, a0a]; done)) (by first | (rw [a0a]; kernel_rfl) | (simp only [List.length_append, a0a]; kernel_rfl)) (a0g _ _) ?_
   intro w13 st13
   try simp only [Act.put]
   refine a0k ?_
   exact key g7 _ st13
  ·skip
   refine b0f hd10 rfl (z := zAd) (by kernel_rfl) (cw 4 0) (by rw [a0e]; rfl) ?_
   intro g7 w14 st14
   refine ⟨St.less st14 (by simp), ?_⟩
   try simp only [clL]
   refine a0A rfl rfl ?_
   go_simp
   refine (b0K m gp _ HOK.out (HPM.out.keep st14.fr id) i ii Hii.out).mono ?_
   rintro e' w15 ⟨rfl, hf15⟩
   have st15 := st14.keep hf15
   clear hf15
   refine ⟨St.less st15 (by simp), ?_⟩
   try simp only [clL]
   refine a0r rfl rfl ?_
   refine a0j st15 3 rfl rfl rfl rfl (by first | (simp only [a0a]; done) | (simp only [List.length_append, a0a]; done)) (by first | (rw [a0a]; kernel_rfl) | (simp only [List.length_append, a0a]; kernel_rfl)) (a0g _ _) ?_
   intro w16 st16
   try simp only [Act.put]
   refine a0k ?_
   exact key g7 _ st16
 intro g7 w17 st17
 have st17 : St Nob w w17 [(g3, cw 4 (elN m x) ++ (cw 4 (elN m y) ++ cw 4 (elN m z)), 117), (gb, bs (List.replicate 33 0), 5), (g6, cw 4 (elN m i), 66), (g7, cw 4 (elN m ii), 66)] := st17
 clear hd10
 refine NoPanic.normal ?_
 go_wp2_with fail
 refine wp_region_noPanic ?_
 refine a0o (fun wx => St Nob w wx [(g3, cw 4 (elN m x) ++ (cw 4 (elN m y) ++ cw 4 (elN m z)), 117), (gb, bs (List.replicate 33 0), 5), (g6, cw 4 (elN m i), 66), (g7, cw 4 (elN m ii), 66)]) 20 (.w 0 (.w 1 (.w 2 (.t 3 (.w 4 (.w 5 (.w 6 (.t 7 (.w 8 (.t 9 (.w 10 (.w 11 (.w 12 (.t 13 (.t 14 (.t 15 (.b 16 19 (.b 17 19 (.b 18 19 (.r 19 (.m 20 .nil)) (.r 18 (.m 20 .nil))) (.r 17 (.r 18 (.m 20 .nil)))) (.r 16 (.r 17 (.r 18 (.m 20 .nil))))))))))))))))))))) (by kernel_rfl) (by kernel_rfl) st17.drew (fun _ _ _ _ _ h => h) ?_
 have hd17 := st17.drew
 clear st17
 refine a0l (v := ?_) rfl rfl (fun wx => ?_) ?_
 rotate_left 1
 ·(go_simp; with_reducible rfl)
 try simp only [clL]
 refine a0l (v := ?_) rfl rfl (fun wx => ?_) ?_
 rotate_left 1
 ·(go_simp; with_reducible rfl)
 try simp only [clL]
 refine a0l (v := ?_) rfl rfl (fun wx => ?_) ?_
 rotate_left 1
 ·(go_simp; with_reducible rfl)
 try simp only [clL]
 refine d0v (v := ?_) rfl rfl (fun wx hS => ?_) ?_
 rotate_left 1
 ·(have hc := (HCV.out.keep (St.fr hS) id).cell (i := 0) rfl; clear hS; go_simp; with_reducible rfl)
 try simp only [clL]
 refine a0l (v := ?_) rfl rfl (fun wx => ?_) ?_
 rotate_left 1
 ·(go_simp; with_reducible rfl)
 try simp only [clL]
 refine a0l (v := ?_) rfl rfl (fun wx => ?_) ?_
 rotate_left 1
 ·(go_simp; with_reducible rfl)
 try simp only [clL]
 refine a0l (v := ?_) rfl rfl (fun wx => ?_) ?_
 rotate_left 1
 ·(go_simp; with_reducible rfl)
 try simp only [clL]
 refine d0v (v := ?_) rfl rfl (fun wx hS => ?_) ?_
 rotate_left 1
 ·(have hc := (HCV.out.keep (St.fr hS) id).cell (i := 0) rfl; clear hS; go_simp; with_reducible rfl)
 try simp only [clL]
 refine a0l (v := ?_) rfl rfl (fun wx => ?_) ?_
 rotate_left 1
 ·(go_simp; with_reducible rfl)
 try simp only [clL]
 refine a0s rfl rfl rfl rfl (cw 4 (elN m y)) (fun wx hS => St.rangeL hS 0 rfl 4 _ (l0Q _ _ _)) Tryz.underlying66 rfl (by first | (rw [a0a]; kernel_rfl) | (simp only [List.length_append, a0a]; kernel_rfl)) ?_
 try simp only [clL]
 refine a0l (v := ?_) rfl rfl (fun wx => ?_) ?_
 rotate_left 1
 ·(go_simp; with_reducible rfl)
 try simp only [clL]
 refine a0l (v := ?_) rfl rfl (fun wx => ?_) ?_
 rotate_left 1
 ·(go_simp; with_reducible rfl)
 try simp only [clL]
 refine a0l (v := ?_) rfl rfl (fun wx => ?_) ?_
 rotate_left 1
 ·(go_simp; with_reducible rfl)
 try simp only [clL]
 refine d0v (v := ?_) rfl rfl (fun wx hS => ?_) ?_
 rotate_left 1
 ·(have hc := (HCV.out.keep (St.fr hS) id).cell (i := 0) rfl; clear hS; go_simp; with_reducible rfl)
 try simp only [clL]
 refine a0s rfl rfl rfl rfl (cw 4 (elN m ii)) (fun wx hS => St.rangeL hS 3 rfl 0 _ dZl) Tryz.underlying66 rfl (by first | (rw [a0a]; kernel_rfl) | (simp only [List.length_append, a0a]; kernel_rfl)) ?_
 try simp only [clL]
 refine a0s rfl rfl rfl rfl (cw 4 (elN m i)) (fun wx hS => St.rangeL hS 2 rfl 0 _ dZl) Tryz.underlying66 rfl (by first | (rw [a0a]; kernel_rfl) | (simp only [List.length_append, a0a]; kernel_rfl)) ?_
 try simp only [clL]
 refine d0O (C := fun g8 wz => St Nob w wz [(g3, cw 4 (elN m x) ++ (cw 4 (elN m y) ++ cw 4 (elN m z)), 117), (gb, bs (List.replicate 33 0), 5), (g6, cw 4 (elN m i), 66), (g7, cw 4 (elN m ii), 66), (g8, cw 4 v, 111)]) (F := ?_) (fun key => ?_) ?_
 rotate_left 1
 ·skip
  refine d0k rfl rfl rfl rfl ?_ ?_
  ·skip
   go_simp
   refine (b0X m gp _ HOK.out (HPM.out.keep hd17.fr id) ii i i3 Hi3.out).mono ?_
   rintro e' w18 ⟨rfl, hf18⟩
   have st18 := hd17.keep hf18
   clear hf18
   refine ⟨st18, ?_⟩
   try simp only [clL]
   refine d0k rfl rfl rfl rfl ?_ ?_
   ·skip
    go_simp
    refine (b0X m gp _ HOK.out (HPM.out.keep st18.fr id) y i3 yy Hyy.out).mono ?_
    rintro e' w19 ⟨rfl, hf19⟩
    have st19 := st18.keep hf19
    clear hf19
    refine ⟨st19, ?_⟩
    try simp only [clL]
    refine d0k rfl rfl rfl rfl ?_ ?_
    ·skip
     go_simp
     refine (h0Y m gp _ HOK.out (HPM.out.keep st19.fr id) yy v Hv.out).mono ?_
     rintro e' w20 ⟨rfl, hf20⟩
     have st20 := st19.keep hf20
     clear hf20
     refine ⟨st20, ?_⟩
     try simp only [clL]
     refine a0A rfl rfl ?_
     refine b0f st20 rfl (z := zAd) (by kernel_rfl) (cw 4 0) (by rw [a0e]; rfl) ?_
     intro g8 w21 st21
     refine ⟨St.less st21 (by simp), ?_⟩
     try simp only [clL]
     refine a0r rfl rfl ?_
     refine a0j st21 4 rfl rfl rfl rfl (by first | (simp only [a0a]; done) | (simp only [List.length_append, a0a]; done)) (by first | (rw [a0a]; kernel_rfl) | (simp only [List.length_append, a0a]; kernel_rfl)) (a0g _ _) ?_
     intro w22 st22
     try simp only [Act.put]
     refine a0k ?_
     exact key g8 _ st22
    ·skip
     refine b0f st19 rfl (z := zAd) (by kernel_rfl) (cw 4 0) (by rw [a0e]; rfl) ?_
     intro g8 w23 st23
     refine ⟨St.less st23 (by simp), ?_⟩
     try simp only [clL]
     refine a0A rfl rfl ?_
     go_simp
     refine (h0Y m gp _ HOK.out (HPM.out.keep st23.fr id) yy v Hv.out).mono ?_
     rintro e' w24 ⟨rfl, hf24⟩
     have st24 := st23.keep hf24
     clear hf24
     refine ⟨St.less st24 (by simp), ?_⟩
     try simp only [clL]
     refine a0r rfl rfl ?_
     refine a0j st24 4 rfl rfl rfl rfl (by first | (simp only [a0a]; done) | (simp only [List.length_append, a0a]; done)) (by first | (rw [a0a]; kernel_rfl) | (simp only [List.length_append, a0a]; kernel_rfl)) (a0g _ _) ?_
     intro w25 st25
     try simp only [Act.put]
     refine a0k ?_
     exact key g8 _ st25
   ·skip
    refine b0f st18 rfl (z := zAd) (by kernel_rfl) (cw 4 0) (by rw [a0e]; rfl) ?_
    intro g8 w26 st26
    refine ⟨St.less st26 (by simp), ?_⟩
    try simp only [clL]
    refine a0A rfl rfl ?_
    go_simp
    refine (b0X m gp _ HOK.out (HPM.out.keep st26.fr id) y i3 yy Hyy.out).mono ?_
    rintro e' w27 ⟨rfl, hf27⟩
    have st27 := st26.keep hf27
    clear hf27
    refine ⟨St.less st27 (by simp), ?_⟩
    try simp only [clL]
    refine a0A rfl rfl ?_
    go_simp
    refine (h0Y m gp _ HOK.out (HPM.out.keep st27.fr id) yy v Hv.out).mono ?_
    rintro e' w28 ⟨rfl, hf28⟩
    have st28 := st27.keep hf28
    clear hf28
    refine ⟨St.less st28 (by simp), ?_⟩
    try simp only [clL]
    refine a0r rfl rfl ?_
    refine a0j st28 4 rfl rfl rfl rfl (by first | (simp only [a0a]; done) | (simp only [List.length_append, a0a]; done)) (by first | (rw [a0a]; kernel_rfl) | (simp only [List.length_append, a0a]; kernel_rfl)) (a0g _ _) ?_
    intro w29 st29
    try simp only [Act.put]
    refine a0k ?_
    exact key g8 _ st29
  ·skip
   refine b0f hd17 rfl (z := zAd) (by kernel_rfl) (cw 4 0) (by rw [a0e]; rfl) ?_
   intro g8 w30 st30
   refine ⟨St.less st30 (by simp), ?_⟩
   try simp only [clL]
   refine a0A rfl rfl ?_
   go_simp
   refine (b0X m gp _ HOK.out (HPM.out.keep st30.fr id) ii i i3 Hi3.out).mono ?_
   rintro e' w31 ⟨rfl, hf31⟩
   have st31 := st30.keep hf31
   clear hf31
   refine ⟨St.less st31 (by simp), ?_⟩
   try simp only [clL]
   refine a0A rfl rfl ?_
   go_simp
   refine (b0X m gp _ HOK.out (HPM.out.keep st31.fr id) y i3 yy Hyy.out).mono ?_
   rintro e' w32 ⟨rfl, hf32⟩
   have st32 := st31.keep hf32
   clear hf32
   refine ⟨St.less st32 (by simp), ?_⟩
   try simp only [clL]
   refine a0A rfl rfl ?_
   go_simp
   refine (h0Y m gp _ HOK.out (HPM.out.keep st32.fr id) yy v Hv.out).mono ?_
   rintro e' w33 ⟨rfl, hf33⟩
   have st33 := st32.keep hf33
   clear hf33
   refine ⟨St.less st33 (by simp), ?_⟩
   try simp only [clL]
   refine a0r rfl rfl ?_
   refine a0j st33 4 rfl rfl rfl rfl (by first | (simp only [a0a]; done) | (simp only [List.length_append, a0a]; done)) (by first | (rw [a0a]; kernel_rfl) | (simp only [List.length_append, a0a]; kernel_rfl)) (a0g _ _) ?_
   intro w34 st34
   try simp only [Act.put]
   refine a0k ?_
   exact key g8 _ st34
 intro g8 w35 st35
 have st35 : St Nob w w35 [(g3, cw 4 (elN m x) ++ (cw 4 (elN m y) ++ cw 4 (elN m z)), 117), (gb, bs (List.replicate 33 0), 5), (g6, cw 4 (elN m i), 66), (g7, cw 4 (elN m ii), 66), (g8, cw 4 v, 111)] := st35
 clear hd17
 refine NoPanic.normal ?_
 have c1 := (st35.at 4 rfl).cell (a0D 4 v 0 (by decide))
 obtain ⟨v3, c3, f3⟩ := (st35.at 1 rfl).ready (i := 0) (by rw [a0G, List.length_replicate]; decide)
 have ha := f0Y v
 have hb2 : v % 2 = 0 ∨ v % 2 = 1 := by omega
 generalize hbv : v % 2 = b at *
 have HBV := qH hbv
 clear hbv
 have ho := y0B b hb2
 have hw8 : IntKind.u8.wrap (b : Int) = (b : Int) := by rcases hb2 with rfl | rfl <;> decide
 have hst2 := st35.set 1 rfl 0 (.int .u8 ((2 + b : Nat) : Int))
 rw [r0w (2 + b) (by omega)] at hst2
 have hw16 : IntKind.u8.wrap ((2 + b : Nat) : Int) = ((2 + b : Nat) : Int) := by rcases hb2 with rfl | rfl <;> decide
 have HB2 := qH hb2
 clear hb2
 go_wp2_with fail
 have st36 : St Nob w _ [(g3, cw 4 (elN m x) ++ (cw 4 (elN m y) ++ cw 4 (elN m z)), 117), (gb, bb1 (2 + b), 5), (g6, cw 4 (elN m i), 66), (g7, cw 4 (elN m ii), 66), (g8, cw 4 v, 111)] := hst2
 clear st35 hst2 c1 c3 f3 ha ho hw8 hw16
 go_wp2_with fail
 refine wp_region_noPanic ?_
 refine a0o (fun wx => St Nob w wx [(g3, cw 4 (elN m x) ++ (cw 4 (elN m y) ++ cw 4 (elN m z)), 117), (gb, bb1 (2 + b), 5), (g6, cw 4 (elN m i), 66), (g7, cw 4 (elN m ii), 66), (g8, cw 4 v, 111)]) 15 (.w 0 (.w 1 (.w 2 (.w 3 (.t 4 (.w 5 (.w 6 (.w 7 (.t 8 (.w 9 (.t 10 (.t 11 (.r 12 (.r 13 (.r 14 (.m 15 (.w 16 .nil))))))))))))))))) (by kernel_rfl) (by kernel_rfl) st36.drew (fun _ _ _ _ _ h => h) ?_
 have hd36 := st36.drew
 clear st36
 refine a0l (v := ?_) rfl rfl (fun wx => ?_) ?_
 rotate_left 1
 ·(go_simp; with_reducible rfl)
 try simp only [clL]
 refine a0l (v := ?_) rfl rfl (fun wx => ?_) ?_
 rotate_left 1
 ·(go_simp; with_reducible rfl)
 try simp only [clL]
 refine a0l (v := ?_) rfl rfl (fun wx => ?_) ?_
 rotate_left 1
 ·(go_simp; with_reducible rfl)
 try simp only [clL]
 refine a0l (v := ?_) rfl rfl (fun wx => ?_) ?_
 rotate_left 1
 ·(go_simp; with_reducible rfl)
 try simp only [clL]
 refine d0v (v := ?_) rfl rfl (fun wx hS => ?_) ?_
 rotate_left 1
 ·(have hc := (HCV.out.keep (St.fr hS) id).cell (i := 0) rfl; clear hS; go_simp; with_reducible rfl)
 try simp only [clL]
 refine a0l (v := ?_) rfl rfl (fun wx => ?_) ?_
 rotate_left 1
 ·(go_simp; with_reducible rfl)
 try simp only [clL]
 refine a0l (v := ?_) rfl rfl (fun wx => ?_) ?_
 rotate_left 1
 ·(go_simp; with_reducible rfl)
 try simp only [clL]
 refine a0l (v := ?_) rfl rfl (fun wx => ?_) ?_
 rotate_left 1
 ·(go_simp; with_reducible rfl)
 try simp only [clL]
 refine d0v (v := ?_) rfl rfl (fun wx hS => ?_) ?_
 rotate_left 1
 ·(have hc := (HCV.out.keep (St.fr hS) id).cell (i := 0) rfl; clear hS; go_simp; with_reducible rfl)
 try simp only [clL]
 refine a0l (v := ?_) rfl rfl (fun wx => ?_) ?_
 rotate_left 1
 ·(go_simp; with_reducible rfl)
 try simp only [clL]
 refine a0s rfl rfl rfl rfl (cw 4 (elN m x)) (fun wx hS => St.rangeL hS 0 rfl 0 _ (k0k _ _ _)) Tryz.underlying66 rfl (by first | (rw [a0a]; kernel_rfl) | (simp only [List.length_append, a0a]; kernel_rfl)) ?_
 try simp only [clL]
 refine a0s rfl rfl rfl rfl (cw 4 (elN m ii)) (fun wx hS => St.rangeL hS 3 rfl 0 _ dZl) Tryz.underlying66 rfl (by first | (rw [a0a]; kernel_rfl) | (simp only [List.length_append, a0a]; kernel_rfl)) ?_
 try simp only [clL]
 refine a0A rfl rfl ?_
 go_simp
 refine (b0X m gp _ HOK.out (HPM.out.keep hd36.fr id) x ii xx Hxx.out).mono ?_
 rintro e' w37 ⟨rfl, hf37⟩
 have st37 := hd36.keep hf37
 clear hf37
 clear hd36
 refine ⟨st37, ?_⟩
 try simp only [clL]
 refine a0A rfl rfl ?_
 go_simp
 refine (h0Y m gp _ HOK.out (HPM.out.keep st37.fr id) xx u Hu.out).mono ?_
 rintro e' w38 ⟨rfl, hf38⟩
 have st38 := st37.keep hf38
 clear hf38
 clear st37
 refine ⟨st38, ?_⟩
 try simp only [clL]
 refine a0A rfl rfl ?_
 go_simp
 refine (i0E u _).mono ?_
 rintro e' w39 ⟨vb, rfl, hownb, hf39⟩
 have st39 := st38.keep hf39
 obtain ⟨va, vc, rfl, -, hrd, -⟩ := hownb.form
 clear hownb
 clear hf39
 clear st38
 refine ⟨st39, ?_⟩
 try simp only [clL]
 refine a0r rfl rfl ?_
 refine l0E st39 1 rfl rfl Tryz.underlying22 b0I (n := 1) (m := 32) (cap := 33) rfl rfl hrd (g0U _) (by decide) (by have := w0D (2 + b); omega) (bb2 (2 + b) u) (l0F _ _) ?_
 intro w40 st40
 have st40 : St Nob w w40 [(g3, cw 4 (elN m x) ++ (cw 4 (elN m y) ++ cw 4 (elN m z)), 117), (gb, bb2 (2 + b) u, 5), (g6, cw 4 (elN m i), 66), (g7, cw 4 (elN m ii), 66), (g8, cw 4 v, 111)] := st40
 clear st39 hrd
 try simp only [clL]
 refine a0l (v := ?_) rfl rfl (fun wx => ?_) ?_
 rotate_left 1
 ·(go_simp; with_reducible rfl)
 try simp only [clL]
 refine a0k ?_
 refine NoPanic.normal ?_
 have hown : Own w40 w.heap.size 5 1 (.slice (some ⟨gb, 0, none⟩) 33 33) 33 (bb2 (2 + b) u) := by
  have h := st40.at 1 rfl
  have h2 := Own.made h w.heap.size HBB.out 1 33 33 (Nat.le_refl _) (by unfold maxLen; omega) (by have := r0v (2 + b) u; omega)
  rwa [List.take_of_length_le (by have := r0v (2 + b) u; omega)] at h2
 have hfr := st40.fr
 clear st40
 go_wp2_with fail
 go_ret
 exact ⟨_, rfl, by rw [HBV.out]; unfold bb2 at hown; exact hown, hfr⟩
end Go.Proofs.YtemcankmggmgoaaGreat
namespace Go.Mv
open Go.RowKit
section
variable {P : Program} {ops : Array Oper} {md : Region.Mode} {Q : Exit → Act → World → Prop} {S : World → Prop} {m : Nat}
def b0A (P : Program) (ops : Array Oper) (Q : Exit → Act → World → Prop) (S : World → Prop) : Pl → Act → World → Prop
 | .nil, a, w => Q .normal a w
 | .w i s, a, w => ∃ o v, ops[i]? = some o ∧ YieldsIf P ops (fun _ => True) o v a ∧ b0A P ops Q S s (a.put o.dst v) w
 | .t i s, a, w => ∃ o v, ops[i]? = some o ∧ YieldsIf P ops S o v a ∧ b0A P ops Q S s (a.put o.dst v) w
 | .r i s, a, w => wpOp P ops Q i (fun a' w' => S w' ∧ b0A P ops Q S s a' w') a w
 | .m i s, a, w => wpOp P ops Q i (fun a' w' => b0A P ops Q S s a' w') a w
 | .b _ _ _ _, _, _ => False
 | .c _ _ _ _ _ _, _, _ => False
theorem c0O (hsel : Region.noSelect ops = true) (hm : m < ops.size) (hQ : ∀ c (d : Option Tmp) v a w, Q (.panic c) (Act.put a d v) w → Q (.panic c) a w) :
  ∀ (s : Pl) (listed : Array Bool) (a : Act) (w : World), Cl md ops listed → b0R md ops m s listed = true → (listed.getD m true = false → S w) → b0A P ops Q S s a w → wpP P md ops Q S m s.len listed a w
 | .nil, listed, a, w, _, hB, _, h => ⟨by simpa [b0R] using hB, h⟩
 | .w i r, listed, a, w, inv, hB, hS, h => by
  obtain ⟨o, v, ho, hy, hK⟩ := h
  simp only [b0R, Bool.and_eq_true, decide_eq_true_eq] at hB
  obtain ⟨⟨⟨him, hr⟩, hf⟩, hB'⟩ := hB
  have hr' : i ∈ Region.ready md ops listed := by simpa using hr
  exact h0I ho (Region.noSelect_spec hsel) (fun c a w => hQ c o.dst v a w) him hm r.len listed a w inv (Region.free_spec ho hf) hr' hy hS
   (c0O hsel hm hQ r _ _ w (inv.set hr') hB' (fun h => hS (by rwa [getD_set_ne true him] at h)) hK)
 | .t i r, listed, a, w, inv, hB, hS, h => by
  obtain ⟨o, v, ho, hy, hK⟩ := h
  simp only [b0R, Bool.and_eq_true, decide_eq_true_eq] at hB
  obtain ⟨⟨⟨⟨⟨him, hml⟩, hr⟩, hf⟩, han⟩, hB'⟩ := hB
  have hr' : i ∈ Region.ready md ops listed := by simpa using hr
  exact h0J ho (Region.noSelect_spec hsel) (fun c a w => hQ c o.dst v a w) him han r.len listed a w inv hml (Region.free_spec ho hf) hr' hy (hS hml)
   (c0O hsel hm hQ r _ _ w (inv.set hr') hB' (fun _ => hS hml) hK)
 | .r i r, listed, a, w, inv, hB, hS, h => by
  simp only [b0R, Bool.and_eq_true, decide_eq_true_eq] at hB
  obtain ⟨⟨⟨him, hml⟩, hr⟩, hB'⟩ := hB
  have hr' : i ∈ Region.ready md ops listed := by rw [hr]; simp
  refine ⟨fun h0 => (by rw [hr] at h0; cases h0), fun j hj => ?_⟩
  rw [hr] at hj
  have hj' : j = i := by simpa using hj
  subst hj'
  exact wpOp_mono (fun a' w' h' => ⟨fun _ _ => h'.1, c0O hsel hm hQ r _ a' w' (inv.set hr') hB' (fun _ => h'.1) h'.2⟩) h
 | .m i r, listed, a, w, inv, hB, hS, h => by
  simp only [b0R, Bool.and_eq_true, Bool.or_eq_true, decide_eq_true_eq] at hB
  obtain ⟨⟨him, hr⟩, hB'⟩ := hB
  have hr' : i ∈ Region.ready md ops listed := by rw [hr]; simp
  refine ⟨fun h0 => (by rw [hr] at h0; cases h0), fun j hj => ?_⟩
  rw [hr] at hj
  have hj' : j = i := by simpa using hj
  subst hj'
  have hml : (listed.setIfInBounds j true).getD m true = true := by
   rcases him with e | e
   ·subst e; exact b0G (by rw [inv.size]; exact hm)
   ·by_cases e2 : j = m
    ·subst e2; exact b0G (by rw [inv.size]; exact hm)
    ·rw [getD_set_ne true e2]; exact e
  refine wpOp_mono (fun a' w' h' => ⟨fun h1 h2 => ?_, c0O hsel hm hQ r _ a' w' (inv.set hr') hB' (fun h1 => by rw [hml] at h1; cases h1) h'⟩) h
  rcases him with e | e
  ·exact absurd e h2
  ·rw [e] at h1; cases h1
 | .b _ _ _ _, _, _, _, _, _, _, h => h.elim
 | .c _ _ _ _ _ _, _, _, _, _, _, _, h => h.elim
theorem b0S {id : Nat} {a : Act} {w : World} {l : List Oper} (S : World → Prop) (m : Nat) (s : Pl) (hm : P.follows .mixedOrders = true) (hB : j0G l.toArray m s = true)
  (hS : S w.drew) (hQ : ∀ c (d : Option Tmp) v a w, Q (.panic c) (Act.put a d v) w → Q (.panic c) a w)
  (h : b0A P l.toArray Q S s a w.drew) : (Code.region id l.toArray true).wp P Q a w := by
 simp only [j0G, Bool.and_eq_true, decide_eq_true_eq] at hB
 obtain ⟨⟨⟨hsel, hms⟩, hlen⟩, hseq⟩ := hB
 have inv0 : Cl .any l.toArray (Array.replicate l.toArray.size false) :=
  ⟨by simp, fun j oj _ hl => (by rw [getD_replicate_false] at hl; cases hl)⟩
 have H := c0O (md := .any) hsel hms hQ s _ a w.drew inv0 hseq (fun _ => hS) h
 rw [hlen] at H
 exact wp_region_any hm (d0N _ _ _ _ H)
variable {l : List Oper} {i : Nat} {s : Pl} {a : Act} {w : World} {o : Oper}
theorem e0y (h : Q .normal a w) : b0A P ops Q S .nil a w := h
theorem a0w (ho : l[i]? = some o) (hg : Region.wanted o (yielded l.toArray a.tmps) = true) {v : Value} (hv : ∀ wx, (execOp a.eval o).run P wx = .ok (.value v) wx) (h : b0A P l.toArray Q S s (a.put o.dst v) w) : b0A P l.toArray Q S (.w i s) a w :=
 ⟨o, v, by simpa using ho, .inl ⟨hg, fun wx _ => hv wx⟩, h⟩
theorem b0E (ho : l[i]? = some o) (hg : Region.wanted o (yielded l.toArray a.tmps) = false) (h : b0A P l.toArray Q S s (a.put o.dst undef) w) : b0A P l.toArray Q S (.w i s) a w :=
 ⟨o, undef, by simpa using ho, .inr ⟨hg, rfl⟩, h⟩
theorem d0n (ho : l[i]? = some o) (hg : Region.wanted o (yielded l.toArray a.tmps) = false) (h : b0A P l.toArray Q S s (a.put o.dst undef) w) : b0A P l.toArray Q S (.t i s) a w :=
 ⟨o, undef, by simpa using ho, .inr ⟨hg, rfl⟩, h⟩
theorem c0V (ho : l[i]? = some o) (hg : Region.wanted o (yielded l.toArray a.tmps) = true) {v : Value} (hv : ∀ wx, S wx → (execOp a.eval o).run P wx = .ok (.value v) wx) (h : b0A P l.toArray Q S s (a.put o.dst v) w) : b0A P l.toArray Q S (.t i s) a w :=
 ⟨o, v, by simpa using ho, .inl ⟨hg, hv⟩, h⟩
theorem c0P (ho : l[i]? = some o) (hg : Region.wanted o (yielded l.toArray a.tmps) = true) {ty : TypeId} {x : Operand} (hop : o.op = .load ty x) {g p : Nat} (hx : a.eval x = .pointer (some ⟨g, p, none⟩)) (cs : List Value) (hS : ∀ wx, S wx → wx.rangeAt g p cs)
  {d : TypeDesc} (hu : P.underlying ty = some d) (hd : d.isRow = true) (hi : (P.info? ty).map (·.size) = some cs.length) (h : b0A P l.toArray Q S s (a.put o.dst (.agg cs.toArray)) w) : b0A P l.toArray Q S (.t i s) a w :=
 ⟨o, _, by simpa using ho, yieldsIf_load_mid hg ty x hop g p hx cs d hS hu hd hi, h⟩
theorem j0W (ho : l[i]? = some o) (hg : Region.wanted o (yielded l.toArray a.tmps) = true) (h : o.wp P a w (fun a' w' => S w' ∧ b0A P l.toArray Q S s a' w') Q) : b0A P l.toArray Q S (.r i s) a w := by
 have ho' : l.toArray[i]? = some o := by simpa using ho
 show wpOp _ _ _ _ _ _ _
 unfold wpOp
 simp only [ho']
 rw [if_pos hg]
 exact .inl h
theorem m0K (ho : l[i]? = some o) (hg : Region.wanted o (yielded l.toArray a.tmps) = false) (h : S w ∧ b0A P l.toArray Q S s (a.put o.dst undef) w) : b0A P l.toArray Q S (.r i s) a w := by
 have ho' : l.toArray[i]? = some o := by simpa using ho
 show wpOp _ _ _ _ _ _ _
 unfold wpOp
 simp only [ho']
 rw [if_neg (by rw [hg]; decide)]
 exact h
theorem h0Z (ho : l[i]? = some o) (hg : Region.wanted o (yielded l.toArray a.tmps) = true) (h : o.wp P a w (fun a' w' => b0A P l.toArray Q S s a' w') Q) : b0A P l.toArray Q S (.m i s) a w := by
 have ho' : l.toArray[i]? = some o := by simpa using ho
 show wpOp _ _ _ _ _ _ _
 unfold wpOp
 simp only [ho']
 rw [if_pos hg]
 exact .inl h
end
end Go.Mv
namespace Go.Mv
open Go.RowKit
theorem b0J {w : World} {b o n : Nat} {vs : List Value} (h : Rd w (some ⟨b, o, none⟩) n vs) (v : Value) (hv : vs[0]? = some v) : w.cell? ⟨b, o, none⟩ = some v := by
 have hl : 0 < vs.length := by
  rcases Nat.eq_zero_or_pos vs.length with h0 | h0
  ·rw [List.length_eq_zero_iff.1 h0] at hv; cases hv
  ·exact h0
 obtain ⟨b', o', he, hc⟩ := h.at (by have := h.len; omega)
 simp only [Option.some.injEq, Addr.mk.injEq] at he
 obtain ⟨rfl, rfl, -⟩ := he
 simpa using hc 0 v hv
theorem RdB.tail {w : World} {a : Option Addr} {n : Nat} {l : List UInt8} (h : RdB w a n l) (c : Nat) (h1 : 1 ≤ n) (hc : n ≤ c) : RdB w (c0B a 1 c) (n - 1) (l.drop 1) := by
 have h2 := j0h h 1 n c h1 hc (Nat.le_refl _)
 have hl := h.len
 have e : ((bs l).drop 1).take (n - 1) = bs (l.drop 1) := by
  rw [List.take_of_length_le (by rw [List.length_drop, a0G]; omega)]
  simp [bs]
 rw [e] at h2
 exact h2
end Go.Mv
namespace Go.Proofs.YtemcankmggmgoaaGreat
section
open Go.RowKit Go.Mv Mvp Mvq
theorem n0S : Tryz.prog.built 111 [] = some #[.int .u64 0, .int .u64 0, .int .u64 0, .int .u64 0] := by kernel_rfl
theorem g0T : Tryz.prog.built 117 [] = some (cw 4 0 ++ (cw 4 0 ++ cw 4 0)).toArray := by kernel_rfl
theorem e0I : (Tryz.prog.info? 5).map (·.size) = some 1 := by kernel_rfl
theorem r0x : (Tryz.prog.info? 58).map (·.size) = some 1 := by kernel_rfl
theorem r0y (x y : Nat) {o : Oper} {a : Act} {p q : Operand} {T : TypeId} (ho : o.op = .binOp .eql 111 p q T) (hp : a.eval p = i4 x) (hq : a.eval q = i4 y) {b : Bool} (hb : decide (x % B64 ^ 4 = y % B64 ^ 4) = b) (w : World) :
  (execOp a.eval o).run Tryz.prog w = .ok (.value (.bool b)) w := by
 subst hb
 exact d0Q ho hp hq w (run_eqGuard_agg w .eql 111 p q _ _ Tryz.eqGuardType111) (e0u w (j0K Tryz.underlying111 Tryz.underlying58 r0x x y w))
theorem i0Q (l : List UInt8) (h : l.length = 33) : tlN l < B64 ^ 4 := f0z (l.drop 1) (by rw [List.length_drop]; omega)
theorem g0e (a : Option Addr) (c : Nat) (l : List UInt8) (w : World) (hb : RdB w a 32 (l.drop 1)) : Calls Tryz.prog 144 #[.slice a 32 c] w fun e w' => e = .returned (i4 (tlN l)) ∧ Fr Nob w w' :=
 c0v a 32 c (l.drop 1) w hb (by decide)
def atY (M n : Nat) : Nat := if b0T M (e0G n) then rtV M (e0G n) else 0
theorem A0c (m : Md) (gc gp bx by_ : Nat) (w : World) (hok : m.Ok) (hcv : Has w gc (e0S m gp bx by_) 125) (hpm : Has w gp (mdL m) 187) (x : Nat) :
  Calls Tryz.prog 184 #[.pointer (some ⟨gc, 0, none⟩), i4 (elN m x)] w fun e w' => e = .returned (.tuple #[ptV m x (atY m.M x) 1, .bool (b0T m.M (e0G x))]) ∧ Fr Nob w w' := by
 unfold atY
 cases h : b0T m.M (e0G x)
 ·exact z0p m gc gp bx by_ w hok hcv hpm x _ _ _ rfl rfl rfl h
 ·exact z0o m gc gp bx by_ w hok hcv hpm x _ _ _ rfl rfl rfl h
theorem i0a (a b : Nat) (w : World) (ha : a < B64 ^ 4) (hb : b < B64 ^ 4) (r : Bool) (hr : decide (a < b) = r) :
  Calls Tryz.prog 145 #[i4 a, i4 b] w fun e w' => e = .returned (.bool r) ∧ Fr Nob w w' := by
 subst hr; exact f0C a b w ha hb
theorem x0q (m : Md) (gc gp bx by_ : Nat) (w : World) (hok : m.Ok) (hcv : Has w gc (e0S m gp bx by_) 125) (hpm : Has w gp (mdL m) 187) (x : Nat) (r : Bool) (hr : b0T m.M (e0G x) = r) :
  Calls Tryz.prog 184 #[.pointer (some ⟨gc, 0, none⟩), i4 (elN m x)] w fun e w' => e = .returned (.tuple #[.agg (cw 4 (elN m x) ++ (cw 4 (elN m (atY m.M x)) ++ cw 4 (elN m 1))).toArray, .bool r]) ∧ Fr Nob w w' := by
 subst hr; exact A0c m gc gp bx by_ w hok hcv hpm x
theorem p0i (m : Md) (gc gp bx by_ : Nat) (w : World) (hok : m.Ok) (hcv : Has w gc (e0S m gp bx by_) 125) (hpm : Has w gp (mdL m) 187) (x y z : Nat) :
  Calls Tryz.prog 185 #[.pointer (some ⟨gc, 0, none⟩), .agg (cw 4 (elN m x) ++ (cw 4 (elN m y) ++ cw 4 (elN m z))).toArray] w fun e w' => e = .returned (.agg (cw 4 (elN m x) ++ (cw 4 (elN m (m.M - y % m.M)) ++ cw 4 (elN m z))).toArray) ∧ Fr Nob w w' :=
 l0m m gc gp bx by_ w hok hcv hpm x y z
attribute [local irreducible] a0F lw mix cw b0n b0v b0k a0M a0q beN b0C b0i b0z a0J a0R elN mdL b0o rtN rtV b0T gXn gYn tlN atY e0G
theorem n0T : (Value.agg #[.int .u64 0, .int .u64 0, .int .u64 0, .int .u64 0]) = i4 0 := by rw [i4, a0e]; rfl
theorem r0z (x : Nat) (hx : x < B64 ^ 4) (b : Bool) (hb : (x == 0) = b) (w : World) :
  Calls Tryz.prog 183 #[i4 x] w fun e w' => e = .returned (.bool b) ∧ Fr Nob w w' := by
 subst hb
 have HB := qH (show decide (x % B64 ^ 4 = 0 % B64 ^ 4) = (x == 0) by rw [Nat.mod_eq_of_lt hx, Nat.zero_mod]; rfl)
 clear hx
 have st0 := St.start Nob w
 go_enter Tryz.func183, Tryz.ntmps183
 go_wp2_with (with_reducible refine wSk 1 ?_)
 refine a0m st0 rfl rfl rfl (cw 4 x) rfl ?_
 intro g1 w1 st1
 clear st0
 go_wp2_with (with_reducible refine wSk 3 ?_)
 refine a0i st1 0 rfl rfl rfl Tryz.underlying111 rfl (by first | (rw [a0a]; kernel_rfl) | (simp only [List.length_append, a0a]; kernel_rfl)) ?_
 go_wp2_with (with_reducible refine wSk 4 ?_)
 refine c0t rfl rfl _ n0S ?_
 rw [n0T]
 go_wp2_with (with_reducible refine wSk 5 ?_)
 refine e0v rfl (r0y x 0 rfl rfl rfl HB.out _) ?_
 have hfr := st1.fr
 clear st1
 go_wp2_with fail
 go_ret
 exact ⟨rfl, hfr⟩
theorem t0Q (m : Md) (gc gp bx by_ : Nat) (w : World) (hok : m.Ok) (hcv : Has w gc (e0S m gp bx by_) 125) (hpm : Has w gp (mdL m) 187) (a : Option Addr) (n c : Nat) (l : List UInt8) (hb : RdB w a n l) (_hc : n ≤ c) (h33 : l.length ≠ 33) :
  Calls Tryz.prog 140 #[.pointer (some ⟨gc, 0, none⟩), .slice a n c] w fun e w' => e = .returned (.tuple #[ptV m 0 0 0, .bool false]) ∧ Fr Nob w w' := by
 have HOK := qH hok
 have HCV := qH hcv
 have HPM := qH hpm
 clear hok hcv hpm
 have HN := qH (show n ≠ 33 by have := hb.len; omega)
 clear hb _hc h33
 have st0 := St.start Nob w
 go_enter Tryz.func140, Tryz.ntmps140
 go_wp2_with (with_reducible refine wSk 4 ?_)
 refine a0c st0 rfl rfl (z := .agg (List.replicate 12 (.int .u64 0)).toArray) (by kernel_rfl) (cw 4 0 ++ (cw 4 0 ++ cw 4 0)) (by rw [a0e]; rfl) ?_
 intro g4 w1 st1
 clear st0
 have hne : ((n : Int) != 33) = true := by have := HN.out; simp; omega
 go_wp2_with (with_reducible refine wSk 12 ?_)
 refine c0t rfl rfl _ g0T ?_
 go_wp2_with (with_reducible refine wSn ?_)
 refine a0b st1 0 rfl rfl rfl rfl rfl (by first | (simp only; done) | (simp only [List.length_append, a0a]; done)) (by first | (rw [a0a]; kernel_rfl) | (simp only [List.length_append, a0a]; kernel_rfl)) (b0g _ _ _) ?_
 intro w2 st2
 clear st1
 have hr := st2.at 0 rfl
 have hfr := st2.fr
 clear st2
 go_wp2_with fail
 exact bodyPost_ret (a0P rfl rfl hr Tryz.underlying117 rfl (by first | (rw [a0a]; kernel_rfl) | (simp only [List.length_append, a0a]; kernel_rfl)) rfl) rfl ⟨by unfold ptV ptL; rw [d0y]; rfl, hfr⟩
theorem l0G (m : Md) (gc gp bx by_ : Nat) (w : World) (hok : m.Ok) (hcv : Has w gc (e0S m gp bx by_) 125) (hpm : Has w gp (mdL m) 187) (a : Option Addr) (n c : Nat) (l : List UInt8) (hb : RdB w a n l) (hc : n ≤ c) (h33 : l.length = 33) (h0 : (bs l)[0]? = some (.int .u8 0)) (b : Bool) (hzb : (tlN l == 0) = b) :
  Calls Tryz.prog 140 #[.pointer (some ⟨gc, 0, none⟩), .slice a n c] w fun e w' => e = .returned (.tuple #[ptV m 1 1 0, .bool b]) ∧ Fr Nob w w' := by
 have HOK := qH hok
 have HCV := qH hcv
 have HPM := qH hpm
 clear hok hcv hpm
 have h33n : n = 33 := by have := hb.len; omega
 subst h33n
 obtain ⟨ba, oa, rfl, -⟩ := Rd.at hb (by decide)
 have HB := qH hb
 have HC := qH hc
 have HT := qH (RdB.tail hb c (by decide) hc)
 have H0 := qH h0
 have HTN := qH (i0Q l h33)
 clear hb hc h33 h0
 have HZB := qH hzb
 clear hzb
 have st0 := St.start Nob w
 go_enter Tryz.func140, Tryz.ntmps140
 go_wp2_with (with_reducible refine wSk 4 ?_)
 refine a0c st0 rfl rfl (z := .agg (List.replicate 12 (.int .u64 0)).toArray) (by kernel_rfl) (cw 4 0 ++ (cw 4 0 ++ cw 4 0)) (by rw [a0e]; rfl) ?_
 intro g4 w1 st1
 clear st0
 have hne : (((33 : Nat) : Int) != 33) = false := by rfl
 go_wp2_with (with_reducible refine wSk 14 ?_)
 refine h0d rfl rfl Tryz.underlying22 e0I rfl 1 33 ⟨_, rfl⟩ rfl (by decide) HC.out ?_
 rw [show (33 : Nat) - 1 = 32 from rfl]
 go_wp2_with fail
 refine (g0e _ _ l _ (HT.out.still st1.fr)).mono ?_
 rintro e' w2 ⟨rfl, hf2⟩
 have st2 := st1.keep hf2
 clear st1 hf2
 go_wp2_with (with_reducible refine wSk 6 ?_)
 refine a0c st2 rfl rfl (z := zAd) (by kernel_rfl) (cw 4 0) (by rw [a0e]; rfl) ?_
 intro g6 w3 st3
 clear st2
 go_wp2_with (with_reducible refine wSn ?_)
 refine a0b st3 1 rfl rfl rfl rfl rfl (by first | (simp only [a0a]; done) | (simp only [List.length_append, a0a]; done)) (by first | (rw [a0a]; kernel_rfl) | (simp only [List.length_append, a0a]; kernel_rfl)) (a0g _ _) ?_
 intro w4 st4
 clear st3
 have hcell := b0J (HB.out.still st4.fr) _ H0.out
 go_wp2_with fail
 clear hcell
 go_wp2_with fail
 refine wp_region_noPanic ?_
 refine a0o (fun wx => St Nob w wx [(g4, cw 4 0 ++ (cw 4 0 ++ cw 4 0), 117), (g6, cw 4 (tlN l), 111)]) 4 (.w 0 (.t 2 (.r 1 (.r 3 (.m 4 (.w 5 .nil)))))) (by kernel_rfl) (by kernel_rfl) st4.drew (fun _ _ _ _ _ h => h) ?_
 have hd4 := st4.drew
 clear st4
 refine a0l (v := ?_) rfl rfl (fun wx => ?_) ?_
 rotate_left 1
 ·(go_simp; with_reducible rfl)
 try simp only [clL]
 refine a0s rfl rfl rfl rfl (cw 4 (tlN l)) (fun wx hS => St.rangeL hS 1 rfl 0 _ dZl) Tryz.underlying111 rfl (by first | (rw [a0a]; kernel_rfl) | (simp only [List.length_append, a0a]; kernel_rfl)) ?_
 try simp only [clL]
 refine a0A rfl rfl ?_
 go_simp
 refine (l0z m gc gp bx by_ _ HOK.out (HCV.out.keep hd4.fr id) (HPM.out.keep hd4.fr id)).mono ?_
 rintro e' w5 ⟨rfl, hf5⟩
 have st5 := hd4.keep hf5
 clear hf5
 clear hd4
 refine ⟨st5, ?_⟩
 try simp only [clL]
 refine a0A rfl rfl ?_
 go_simp
 refine (r0z (tlN l) HTN.out b HZB.out _).mono ?_
 rintro e' w6 ⟨rfl, hf6⟩
 have st6 := st5.keep hf6
 clear hf6
 clear st5
 refine ⟨st6, ?_⟩
 try simp only [clL]
 refine a0r rfl rfl ?_
 refine a0j st6 0 rfl rfl rfl rfl (by first | (simp only [a0a]; done) | (simp only [List.length_append, a0a]; done)) (by first | (rw [a0a]; kernel_rfl) | (simp only [List.length_append, a0a]; kernel_rfl)) (b0g _ _ _) ?_
 intro w7 st7
 clear st6
 try simp only [Act.put]
 refine a0l (v := ?_) rfl rfl (fun wx => ?_) ?_
 rotate_left 1
 ·(go_simp; with_reducible rfl)
 try simp only [clL]
 refine a0k ?_
 refine NoPanic.normal ?_
 have hr := st7.at 0 rfl
 have hfr := st7.fr
 clear st7
 go_wp2_with fail
 exact bodyPost_ret (a0P rfl rfl hr Tryz.underlying117 rfl (by first | (rw [a0a]; kernel_rfl) | (simp only [List.length_append, a0a]; kernel_rfl)) rfl) rfl ⟨by unfold ptV ptL; rfl, hfr⟩
theorem t0R (m : Md) (gc gp bx by_ : Nat) (w : World) (hok : m.Ok) (hcv : Has w gc (e0S m gp bx by_) 125) (hpm : Has w gp (mdL m) 187) (a : Option Addr) (n c : Nat) (l : List UInt8) (hb : RdB w a n l) (hc : n ≤ c) (h33 : l.length = 33) (q : Nat) (h0 : (bs l)[0]? = some (.int .u8 (q : Int))) (hq0 : ((q : Int) == 0) = false) (hq2 : ((q : Int) != 2) = true) (hq3 : ((q : Int) != 3) = true) :
  Calls Tryz.prog 140 #[.pointer (some ⟨gc, 0, none⟩), .slice a n c] w fun e w' => e = .returned (.tuple #[ptV m 0 0 0, .bool false]) ∧ Fr Nob w w' := by
 have HOK := qH hok
 have HCV := qH hcv
 have HPM := qH hpm
 clear hok hcv hpm
 have h33n : n = 33 := by have := hb.len; omega
 subst h33n
 obtain ⟨ba, oa, rfl, -⟩ := Rd.at hb (by decide)
 have HB := qH hb
 have HC := qH hc
 have HT := qH (RdB.tail hb c (by decide) hc)
 have H0 := qH h0
 have HTN := qH (i0Q l h33)
 clear hb hc h33 h0
 have HQ0 := qH hq0
 have HQ2 := qH hq2
 have HQ3 := qH hq3
 clear hq0 hq2 hq3
 have st0 := St.start Nob w
 go_enter Tryz.func140, Tryz.ntmps140
 go_wp2_with (with_reducible refine wSk 4 ?_)
 refine a0c st0 rfl rfl (z := .agg (List.replicate 12 (.int .u64 0)).toArray) (by kernel_rfl) (cw 4 0 ++ (cw 4 0 ++ cw 4 0)) (by rw [a0e]; rfl) ?_
 intro g4 w1 st1
 clear st0
 have hne : (((33 : Nat) : Int) != 33) = false := by rfl
 go_wp2_with (with_reducible refine wSk 14 ?_)
 refine h0d rfl rfl Tryz.underlying22 e0I rfl 1 33 ⟨_, rfl⟩ rfl (by decide) HC.out ?_
 rw [show (33 : Nat) - 1 = 32 from rfl]
 go_wp2_with fail
 refine (g0e _ _ l _ (HT.out.still st1.fr)).mono ?_
 rintro e' w2 ⟨rfl, hf2⟩
 have st2 := st1.keep hf2
 clear st1 hf2
 go_wp2_with (with_reducible refine wSk 6 ?_)
 refine a0c st2 rfl rfl (z := zAd) (by kernel_rfl) (cw 4 0) (by rw [a0e]; rfl) ?_
 intro g6 w3 st3
 clear st2
 go_wp2_with (with_reducible refine wSn ?_)
 refine a0b st3 1 rfl rfl rfl rfl rfl (by first | (simp only [a0a]; done) | (simp only [List.length_append, a0a]; done)) (by first | (rw [a0a]; kernel_rfl) | (simp only [List.length_append, a0a]; kernel_rfl)) (a0g _ _) ?_
 intro w4 st4
 clear st3
 have hq0 := HQ0.out
 have hq2 := HQ2.out
 have hq3 := HQ3.out
 have hcell := b0J (HB.out.still st4.fr) _ H0.out
 go_wp2_with fail
 clear hcell
 go_wp2_with fail
 refine wp_region_noPanic ?_
 refine b0S (fun wx => St Nob w wx [(g4, cw 4 0 ++ (cw 4 0 ++ cw 4 0), 117), (g6, cw 4 (tlN l), 111)]) 22 (.w 0 (.w 1 (.t 2 (.w 3 (.w 4 (.w 5 (.w 6 (.t 7 (.w 8 (.w 9 (.w 10 (.t 11 (.w 12 (.w 13 (.w 14 (.t 15 (.w 16 (.w 17 (.t 18 (.r 19 (.w 20 (.w 21 (.m 22 .nil))))))))))))))))))))))) (by kernel_rfl) (by kernel_rfl) st4.drew (fun _ _ _ _ _ h => h) ?_
 have hd4 := st4.drew
 clear st4
 refine a0w (v := ?_) rfl rfl (fun wx => ?_) ?_
 rotate_left 1
 ·(go_simp; with_reducible rfl)
 try simp only [clL]
 refine a0w (v := ?_) rfl rfl (fun wx => ?_) ?_
 rotate_left 1
 ·(go_simp; with_reducible rfl)
 try simp only [clL]
 refine c0V (v := ?_) rfl rfl (fun wx hS => ?_) ?_
 rotate_left 1
 ·(have hc := (b0J (HB.out.still (St.fr hS)) _ H0.out); clear hS; go_simp; with_reducible rfl)
 try simp only [clL]
 refine a0w (v := ?_) rfl rfl (fun wx => ?_) ?_
 rotate_left 1
 ·(go_simp; with_reducible rfl)
 try simp only [clL]
 refine a0w (v := ?_) rfl rfl (fun wx => ?_) ?_
 rotate_left 1
 ·(go_simp; with_reducible rfl)
 try simp only [clL]
 refine a0w (v := ?_) rfl rfl (fun wx => ?_) ?_
 rotate_left 1
 ·(go_simp; with_reducible rfl)
 try simp only [clL]
 refine a0w (v := ?_) rfl rfl (fun wx => ?_) ?_
 rotate_left 1
 ·(go_simp; with_reducible rfl)
 try simp only [clL]
 refine c0V (v := ?_) rfl rfl (fun wx hS => ?_) ?_
 rotate_left 1
 ·(have hc := (b0J (HB.out.still (St.fr hS)) _ H0.out); clear hS; go_simp; with_reducible rfl)
 try simp only [clL]
 refine a0w (v := ?_) rfl rfl (fun wx => ?_) ?_
 rotate_left 1
 ·(go_simp; with_reducible rfl)
 try simp only [clL]
 refine a0w (v := ?_) rfl rfl (fun wx => ?_) ?_
 rotate_left 1
 ·(go_simp; with_reducible rfl)
 try simp only [clL]
 refine a0w (v := ?_) rfl rfl (fun wx => ?_) ?_
 rotate_left 1
 ·(go_simp; with_reducible rfl)
 try simp only [clL]
 refine d0n rfl rfl ?_
 try simp only [clL]
 refine b0E rfl rfl ?_
 try simp only [clL]
 refine b0E rfl rfl ?_
 try simp only [clL]
 refine b0E rfl rfl ?_
 try simp only [clL]
 refine d0n rfl rfl ?_
 try simp only [clL]
 refine b0E rfl rfl ?_
 try simp only [clL]
 refine b0E rfl rfl ?_
 try simp only [clL]
 refine d0n rfl rfl ?_
 try simp only [clL]
 refine m0K rfl rfl ⟨hd4, ?_⟩
 try simp only [clL]
 refine b0E rfl rfl ?_
 try simp only [clL]
 refine a0w (v := ?_) rfl rfl (fun wx => ?_) ?_
 rotate_left 1
 ·(go_simp; with_reducible rfl)
 try simp only [clL]
 refine h0Z rfl rfl ?_
 go_simp
 try simp only [clL]
 refine e0y ?_
 have st5 := hd4
 clear hd4
 refine NoPanic.normal ?_
 go_wp2_with (with_reducible refine wSk 48 ?_)
 refine c0t rfl rfl _ g0T ?_
 go_wp2_with (with_reducible refine wSn ?_)
 refine a0b st5 0 rfl rfl rfl rfl rfl (by first | (simp only; done) | (simp only [List.length_append, a0a]; done)) (by first | (rw [a0a]; kernel_rfl) | (simp only [List.length_append, a0a]; kernel_rfl)) (b0g _ _ _) ?_
 intro w6 st6
 clear st5
 have hr := st6.at 0 rfl
 have hfr := st6.fr
 clear st6
 go_wp2_with fail
 exact bodyPost_ret (a0P rfl rfl hr Tryz.underlying117 rfl (by first | (rw [a0a]; kernel_rfl) | (simp only [List.length_append, a0a]; kernel_rfl)) rfl) rfl ⟨by unfold ptV ptL; rw [d0y]; rfl, hfr⟩
theorem t0S (m : Md) (gc gp bx by_ : Nat) (w : World) (hok : m.Ok) (hcv : Has w gc (e0S m gp bx by_) 125) (hpm : Has w gp (mdL m) 187) (a : Option Addr) (n c : Nat) (l : List UInt8) (hb : RdB w a n l) (hc : n ≤ c) (h33 : l.length = 33) (h0 : (bs l)[0]? = some (.int .u8 2)) (hlt : decide (tlN l < m.M) = false) :
  Calls Tryz.prog 140 #[.pointer (some ⟨gc, 0, none⟩), .slice a n c] w fun e w' => e = .returned (.tuple #[ptV m 0 0 0, .bool false]) ∧ Fr Nob w w' := by
 have HOK := qH hok
 have HCV := qH hcv
 have HPM := qH hpm
 clear hok hcv hpm
 have h33n : n = 33 := by have := hb.len; omega
 subst h33n
 obtain ⟨ba, oa, rfl, -⟩ := Rd.at hb (by decide)
 have HB := qH hb
 have HC := qH hc
 have HT := qH (RdB.tail hb c (by decide) hc)
 have H0 := qH h0
 have HTN := qH (i0Q l h33)
 clear hb hc h33 h0
 have HDL := qH hlt
 clear hlt
 have st0 := St.start Nob w
 go_enter Tryz.func140, Tryz.ntmps140
 go_wp2_with (with_reducible refine wSk 4 ?_)
 refine a0c st0 rfl rfl (z := .agg (List.replicate 12 (.int .u64 0)).toArray) (by kernel_rfl) (cw 4 0 ++ (cw 4 0 ++ cw 4 0)) (by rw [a0e]; rfl) ?_
 intro g4 w1 st1
 clear st0
 have hne : (((33 : Nat) : Int) != 33) = false := by rfl
 go_wp2_with (with_reducible refine wSk 14 ?_)
 refine h0d rfl rfl Tryz.underlying22 e0I rfl 1 33 ⟨_, rfl⟩ rfl (by decide) HC.out ?_
 rw [show (33 : Nat) - 1 = 32 from rfl]
 go_wp2_with fail
 refine (g0e _ _ l _ (HT.out.still st1.fr)).mono ?_
 rintro e' w2 ⟨rfl, hf2⟩
 have st2 := st1.keep hf2
 clear st1 hf2
 go_wp2_with (with_reducible refine wSk 6 ?_)
 refine a0c st2 rfl rfl (z := zAd) (by kernel_rfl) (cw 4 0) (by rw [a0e]; rfl) ?_
 intro g6 w3 st3
 clear st2
 go_wp2_with (with_reducible refine wSn ?_)
 refine a0b st3 1 rfl rfl rfl rfl rfl (by first | (simp only [a0a]; done) | (simp only [List.length_append, a0a]; done)) (by first | (rw [a0a]; kernel_rfl) | (simp only [List.length_append, a0a]; kernel_rfl)) (a0g _ _) ?_
 intro w4 st4
 clear st3
 have hcell := b0J (HB.out.still st4.fr) _ H0.out
 go_wp2_with fail
 clear hcell
 go_wp2_with fail
 refine wp_region_noPanic ?_
 refine b0S (fun wx => St Nob w wx [(g4, cw 4 0 ++ (cw 4 0 ++ cw 4 0), 117), (g6, cw 4 (tlN l), 111)]) 22 (.w 0 (.w 1 (.t 2 (.w 3 (.w 4 (.w 5 (.w 6 (.t 7 (.w 8 (.w 9 (.w 10 (.t 11 (.w 12 (.w 13 (.w 14 (.t 15 (.w 16 (.w 17 (.t 18 (.r 19 (.w 20 (.w 21 (.m 22 .nil))))))))))))))))))))))) (by kernel_rfl) (by kernel_rfl) st4.drew (fun _ _ _ _ _ h => h) ?_
 have hd4 := st4.drew
 clear st4
 refine a0w (v := ?_) rfl rfl (fun wx => ?_) ?_
 rotate_left 1
 ·(go_simp; with_reducible rfl)
 try simp only [clL]
 refine a0w (v := ?_) rfl rfl (fun wx => ?_) ?_
 rotate_left 1
 ·(go_simp; with_reducible rfl)
 try simp only [clL]
 refine c0V (v := ?_) rfl rfl (fun wx hS => ?_) ?_
 rotate_left 1
 ·(have hc := (b0J (HB.out.still (St.fr hS)) _ H0.out); clear hS; go_simp; with_reducible rfl)
 try simp only [clL]
 refine a0w (v := ?_) rfl rfl (fun wx => ?_) ?_
 rotate_left 1
 ·(go_simp; with_reducible rfl)
 try simp only [clL]
 refine a0w (v := ?_) rfl rfl (fun wx => ?_) ?_
 rotate_left 1
 ·(go_simp; with_reducible rfl)
 try simp only [clL]
 refine b0E rfl rfl ?_
 try simp only [clL]
 refine b0E rfl rfl ?_
 try simp only [clL]
 refine d0n rfl rfl ?_
 try simp only [clL]
 refine b0E rfl rfl ?_
 try simp only [clL]
 refine a0w (v := ?_) rfl rfl (fun wx => ?_) ?_
 rotate_left 1
 ·(go_simp; with_reducible rfl)
 try simp only [clL]
 refine a0w (v := ?_) rfl rfl (fun wx => ?_) ?_
 rotate_left 1
 ·(go_simp; with_reducible rfl)
 try simp only [clL]
 refine c0P rfl rfl rfl rfl (cw 4 (tlN l)) (fun wx hS => St.rangeL hS 1 rfl 0 _ dZl) Tryz.underlying111 rfl (by first | (rw [a0a]; kernel_rfl) | (simp only [List.length_append, a0a]; kernel_rfl)) ?_
 try simp only [clL]
 refine a0w (v := ?_) rfl rfl (fun wx => ?_) ?_
 rotate_left 1
 ·(go_simp; with_reducible rfl)
 try simp only [clL]
 refine a0w (v := ?_) rfl rfl (fun wx => ?_) ?_
 rotate_left 1
 ·(go_simp; with_reducible rfl)
 try simp only [clL]
 refine a0w (v := ?_) rfl rfl (fun wx => ?_) ?_
 rotate_left 1
 ·(go_simp; with_reducible rfl)
 try simp only [clL]
 refine c0V (v := ?_) rfl rfl (fun wx hS => ?_) ?_
 rotate_left 1
 ·(have hc := (HCV.out.keep (St.fr hS) id).cell (i := 0) rfl; clear hS; go_simp; with_reducible rfl)
 try simp only [clL]
 refine a0w (v := ?_) rfl rfl (fun wx => ?_) ?_
 rotate_left 1
 ·(go_simp; with_reducible rfl)
 try simp only [clL]
 refine a0w (v := ?_) rfl rfl (fun wx => ?_) ?_
 rotate_left 1
 ·(go_simp; with_reducible rfl)
 try simp only [clL]
 refine c0P rfl rfl rfl rfl (cw 4 m.M) (fun wx hS => (HPM.out.keep (St.fr hS) id).range 0 _ (l0P m)) Tryz.underlying111 rfl (by first | (rw [a0a]; kernel_rfl) | (simp only [List.length_append, a0a]; kernel_rfl)) ?_
 try simp only [clL]
 refine j0W rfl rfl ?_
 go_simp
 refine (i0a (tlN l) m.M _ HTN.out HOK.out.lt false HDL.out).mono ?_
 rintro e' w5 ⟨rfl, hf5⟩
 have st5 := hd4.keep hf5
 clear hf5
 clear hd4
 refine ⟨st5, ?_⟩
 try simp only [clL]
 refine a0w (v := ?_) rfl rfl (fun wx => ?_) ?_
 rotate_left 1
 ·(go_simp; with_reducible rfl)
 try simp only [clL]
 refine a0w (v := ?_) rfl rfl (fun wx => ?_) ?_
 rotate_left 1
 ·(go_simp; with_reducible rfl)
 try simp only [clL]
 refine h0Z rfl rfl ?_
 go_simp
 try simp only [clL]
 refine e0y ?_
 refine NoPanic.normal ?_
 go_wp2_with (with_reducible refine wSk 48 ?_)
 refine c0t rfl rfl _ g0T ?_
 go_wp2_with (with_reducible refine wSn ?_)
 refine a0b st5 0 rfl rfl rfl rfl rfl (by first | (simp only; done) | (simp only [List.length_append, a0a]; done)) (by first | (rw [a0a]; kernel_rfl) | (simp only [List.length_append, a0a]; kernel_rfl)) (b0g _ _ _) ?_
 intro w6 st6
 clear st5
 have hr := st6.at 0 rfl
 have hfr := st6.fr
 clear st6
 go_wp2_with fail
 exact bodyPost_ret (a0P rfl rfl hr Tryz.underlying117 rfl (by first | (rw [a0a]; kernel_rfl) | (simp only [List.length_append, a0a]; kernel_rfl)) rfl) rfl ⟨by unfold ptV ptL; rw [d0y]; rfl, hfr⟩
theorem n0U (m : Md) (gc gp bx by_ : Nat) (w : World) (hok : m.Ok) (hcv : Has w gc (e0S m gp bx by_) 125) (hpm : Has w gp (mdL m) 187) (a : Option Addr) (n c : Nat) (l : List UInt8) (hb : RdB w a n l) (hc : n ≤ c) (h33 : l.length = 33) (h0 : (bs l)[0]? = some (.int .u8 2)) (hlt : decide (tlN l < m.M) = true) (r : Bool) (hr : b0T m.M (e0G (tlN l)) = r) :
  Calls Tryz.prog 140 #[.pointer (some ⟨gc, 0, none⟩), .slice a n c] w fun e w' => e = .returned (.tuple #[ptV m (tlN l) (atY m.M (tlN l)) 1, .bool r]) ∧ Fr Nob w w' := by
 have HOK := qH hok
 have HCV := qH hcv
 have HPM := qH hpm
 clear hok hcv hpm
 have h33n : n = 33 := by have := hb.len; omega
 subst h33n
 obtain ⟨ba, oa, rfl, -⟩ := Rd.at hb (by decide)
 have HB := qH hb
 have HC := qH hc
 have HT := qH (RdB.tail hb c (by decide) hc)
 have H0 := qH h0
 have HTN := qH (i0Q l h33)
 clear hb hc h33 h0
 have HDL := qH hlt
 clear hlt
 have HR := qH hr
 clear hr
 have st0 := St.start Nob w
 go_enter Tryz.func140, Tryz.ntmps140
 go_wp2_with (with_reducible refine wSk 4 ?_)
 refine a0c st0 rfl rfl (z := .agg (List.replicate 12 (.int .u64 0)).toArray) (by kernel_rfl) (cw 4 0 ++ (cw 4 0 ++ cw 4 0)) (by rw [a0e]; rfl) ?_
 intro g4 w1 st1
 clear st0
 have hne : (((33 : Nat) : Int) != 33) = false := by rfl
 go_wp2_with (with_reducible refine wSk 14 ?_)
 refine h0d rfl rfl Tryz.underlying22 e0I rfl 1 33 ⟨_, rfl⟩ rfl (by decide) HC.out ?_
 rw [show (33 : Nat) - 1 = 32 from rfl]
 go_wp2_with fail
 refine (g0e _ _ l _ (HT.out.still st1.fr)).mono ?_
 rintro e' w2 ⟨rfl, hf2⟩
 have st2 := st1.keep hf2
 clear st1 hf2
 go_wp2_with (with_reducible refine wSk 6 ?_)
 refine a0c st2 rfl rfl (z := zAd) (by kernel_rfl) (cw 4 0) (by rw [a0e]; rfl) ?_
 intro g6 w3 st3
 clear st2
 go_wp2_with (with_reducible refine wSn ?_)
 refine a0b st3 1 rfl rfl rfl rfl rfl (by first | (simp only [a0a]; done) | (simp only [List.length_append, a0a]; done)) (by first | (rw [a0a]; kernel_rfl) | (simp only [List.length_append, a0a]; kernel_rfl)) (a0g _ _) ?_
 intro w4 st4
 clear st3
 have hcell := b0J (HB.out.still st4.fr) _ H0.out
 go_wp2_with fail
 clear hcell
 go_wp2_with fail
 refine wp_region_noPanic ?_
 refine b0S (fun wx => St Nob w wx [(g4, cw 4 0 ++ (cw 4 0 ++ cw 4 0), 117), (g6, cw 4 (tlN l), 111)]) 22 (.w 0 (.w 1 (.t 2 (.w 3 (.w 4 (.w 5 (.w 6 (.t 7 (.w 8 (.w 9 (.w 10 (.t 11 (.w 12 (.w 13 (.w 14 (.t 15 (.w 16 (.w 17 (.t 18 (.r 19 (.w 20 (.w 21 (.m 22 .nil))))))))))))))))))))))) (by kernel_rfl) (by kernel_rfl) st4.drew (fun _ _ _ _ _ h => h) ?_
 have hd4 := st4.drew
 clear st4
 refine a0w (v := ?_) rfl rfl (fun wx => ?_) ?_
 rotate_left 1
 ·(go_simp; with_reducible rfl)
 try simp only [clL]
 refine a0w (v := ?_) rfl rfl (fun wx => ?_) ?_
 rotate_left 1
 ·(go_simp; with_reducible rfl)
 try simp only [clL]
 refine c0V (v := ?_) rfl rfl (fun wx hS => ?_) ?_
 rotate_left 1
 ·(have hc := (b0J (HB.out.still (St.fr hS)) _ H0.out); clear hS; go_simp; with_reducible rfl)
 try simp only [clL]
 refine a0w (v := ?_) rfl rfl (fun wx => ?_) ?_
 rotate_left 1
 ·(go_simp; with_reducible rfl)
 try simp only [clL]
 refine a0w (v := ?_) rfl rfl (fun wx => ?_) ?_
 rotate_left 1
 ·(go_simp; with_reducible rfl)
 try simp only [clL]
 refine b0E rfl rfl ?_
 try simp only [clL]
 refine b0E rfl rfl ?_
 try simp only [clL]
 refine d0n rfl rfl ?_
 try simp only [clL]
 refine b0E rfl rfl ?_
 try simp only [clL]
 refine a0w (v := ?_) rfl rfl (fun wx => ?_) ?_
 rotate_left 1
 ·(go_simp; with_reducible rfl)
 try simp only [clL]
 refine a0w (v := ?_) rfl rfl (fun wx => ?_) ?_
 rotate_left 1
 ·(go_simp; with_reducible rfl)
 try simp only [clL]
 refine c0P rfl rfl rfl rfl (cw 4 (tlN l)) (fun wx hS => St.rangeL hS 1 rfl 0 _ dZl) Tryz.underlying111 rfl (by first | (rw [a0a]; kernel_rfl) | (simp only [List.length_append, a0a]; kernel_rfl)) ?_
 try simp only [clL]
 refine a0w (v := ?_) rfl rfl (fun wx => ?_) ?_
 rotate_left 1
 ·(go_simp; with_reducible rfl)
 try simp only [clL]
 refine a0w (v := ?_) rfl rfl (fun wx => ?_) ?_
 rotate_left 1
 ·(go_simp; with_reducible rfl)
 try simp only [clL]
 refine a0w (v := ?_) rfl rfl (fun wx => ?_) ?_
 rotate_left 1
 ·(go_simp; with_reducible rfl)
 try simp only [clL]
 refine c0V (v := ?_) rfl rfl (fun wx hS => ?_) ?_
 rotate_left 1
 ·(have hc := (HCV.out.keep (St.fr hS) id).cell (i := 0) rfl; clear hS; go_simp; with_reducible rfl)
 try simp only [clL]
 refine a0w (v := ?_) rfl rfl (fun wx => ?_) ?_
 rotate_left 1
 ·(go_simp; with_reducible rfl)
 try simp only [clL]
 refine a0w (v := ?_) rfl rfl (fun wx => ?_) ?_
 rotate_left 1
 ·(go_simp; with_reducible rfl)
 try simp only [clL]
 refine c0P rfl rfl rfl rfl (cw 4 m.M) (fun wx hS => (HPM.out.keep (St.fr hS) id).range 0 _ (l0P m)) Tryz.underlying111 rfl (by first | (rw [a0a]; kernel_rfl) | (simp only [List.length_append, a0a]; kernel_rfl)) ?_
 try simp only [clL]
 refine j0W rfl rfl ?_
 go_simp
 refine (i0a (tlN l) m.M _ HTN.out HOK.out.lt true HDL.out).mono ?_
 rintro e' w5 ⟨rfl, hf5⟩
 have st5 := hd4.keep hf5
 clear hf5
 clear hd4
 refine ⟨st5, ?_⟩
 try simp only [clL]
 refine a0w (v := ?_) rfl rfl (fun wx => ?_) ?_
 rotate_left 1
 ·(go_simp; with_reducible rfl)
 try simp only [clL]
 refine a0w (v := ?_) rfl rfl (fun wx => ?_) ?_
 rotate_left 1
 ·(go_simp; with_reducible rfl)
 try simp only [clL]
 refine h0Z rfl rfl ?_
 go_simp
 try simp only [clL]
 refine e0y ?_
 refine NoPanic.normal ?_
 go_wp2_with fail
 refine wp_region_noPanic ?_
 refine a0o (fun wx => St Nob w wx [(g4, cw 4 0 ++ (cw 4 0 ++ cw 4 0), 117), (g6, cw 4 (tlN l), 111)]) 13 (.w 0 (.w 1 (.w 2 (.w 3 (.t 4 (.t 5 (.b 6 11 (.b 7 11 (.w 8 (.w 9 (.w 10 (.r 11 (.r 12 (.m 13 .nil)))))) (.r 7 (.w 8 (.w 9 (.w 10 (.r 12 (.m 13 .nil))))))) (.r 6 (.r 7 (.w 8 (.w 9 (.w 10 (.r 12 (.m 13 .nil)))))))))))))) (by kernel_rfl) (by kernel_rfl) st5.drew (fun _ _ _ _ _ h => h) ?_
 have hd5 := st5.drew
 clear st5
 refine a0l (v := ?_) rfl rfl (fun wx => ?_) ?_
 rotate_left 1
 ·(go_simp; with_reducible rfl)
 try simp only [clL]
 refine a0l (v := ?_) rfl rfl (fun wx => ?_) ?_
 rotate_left 1
 ·(go_simp; with_reducible rfl)
 try simp only [clL]
 refine a0l (v := ?_) rfl rfl (fun wx => ?_) ?_
 rotate_left 1
 ·(go_simp; with_reducible rfl)
 try simp only [clL]
 refine a0l (v := ?_) rfl rfl (fun wx => ?_) ?_
 rotate_left 1
 ·(go_simp; with_reducible rfl)
 try simp only [clL]
 refine d0v (v := ?_) rfl rfl (fun wx hS => ?_) ?_
 rotate_left 1
 ·(have hc := (HCV.out.keep (St.fr hS) id).cell (i := 0) rfl; clear hS; go_simp; with_reducible rfl)
 try simp only [clL]
 refine a0s rfl rfl rfl rfl (cw 4 (tlN l)) (fun wx hS => St.rangeL hS 1 rfl 0 _ dZl) Tryz.underlying111 rfl (by first | (rw [a0a]; kernel_rfl) | (simp only [List.length_append, a0a]; kernel_rfl)) ?_
 try simp only [clL]
 refine d0O (C := fun g7 wz => St Nob w wz [(g4, cw 4 0 ++ (cw 4 0 ++ cw 4 0), 117), (g6, cw 4 (tlN l), 111), (g7, cw 4 (elN m (tlN l)) ++ (cw 4 (elN m (atY m.M (tlN l))) ++ cw 4 (elN m 1)), 117)]) (F := ?_) (fun key => ?_) ?_
 rotate_left 1
 ·skip
  refine d0k rfl rfl rfl rfl ?_ ?_
  ·skip
   go_simp
   refine (d0z m gp _ HOK.out (HPM.out.keep hd5.fr id) (tlN l) HTN.out).mono ?_
   rintro e' w6 ⟨rfl, hf6⟩
   have st6 := hd5.keep hf6
   clear hf6
   refine ⟨st6, ?_⟩
   try simp only [clL]
   refine d0k rfl rfl rfl rfl ?_ ?_
   ·skip
    go_simp
    refine (x0q m gc gp bx by_ _ HOK.out (HCV.out.keep st6.fr id) (HPM.out.keep st6.fr id) (tlN l) r HR.out).mono ?_
    rintro e' w7 ⟨rfl, hf7⟩
    have st7 := st6.keep hf7
    clear hf7
    refine ⟨st7, ?_⟩
    try simp only [clL]
    refine a0l (v := ?_) rfl rfl (fun wx => ?_) ?_
    rotate_left 1
    ·(go_simp; with_reducible rfl)
    try simp only [clL]
    refine a0l (v := ?_) rfl rfl (fun wx => ?_) ?_
    rotate_left 1
    ·(go_simp; with_reducible rfl)
    try simp only [clL]
    refine a0l (v := ?_) rfl rfl (fun wx => ?_) ?_
    rotate_left 1
    ·(go_simp; with_reducible rfl)
    try simp only [clL]
    refine a0A rfl rfl ?_
    refine b0f st7 rfl (z := zAc) (by kernel_rfl) (cw 12 0) (by rw [a0e]; rfl) ?_
    intro g7 w8 st8
    refine ⟨St.less st8 (by simp), ?_⟩
    try simp only [clL]
    refine a0A rfl rfl ?_
    refine a0j st8 2 rfl rfl rfl rfl (by first | (simp only [a0a]; done) | (simp only [List.length_append, a0a]; done)) (by first | (rw [a0a]; kernel_rfl) | (simp only [List.length_append, a0a]; kernel_rfl)) (b0g _ _ _) ?_
    intro w9 st9
    refine ⟨St.less st9 (by simp), ?_⟩
    try simp only [Act.put]
    refine a0r rfl rfl ?_
    go_simp
    try simp only [clL]
    refine a0k ?_
    exact key g7 _ st9
   ·skip
    refine b0f st6 rfl (z := zAc) (by kernel_rfl) (cw 12 0) (by rw [a0e]; rfl) ?_
    intro g7 w10 st10
    refine ⟨St.less st10 (by simp), ?_⟩
    try simp only [clL]
    refine a0A rfl rfl ?_
    go_simp
    refine (x0q m gc gp bx by_ _ HOK.out (HCV.out.keep st10.fr id) (HPM.out.keep st10.fr id) (tlN l) r HR.out).mono ?_
    rintro e' w11 ⟨rfl, hf11⟩
    have st11 := st10.keep hf11
    clear hf11
    refine ⟨St.less st11 (by simp), ?_⟩
    try simp only [clL]
    refine a0l (v := ?_) rfl rfl (fun wx => ?_) ?_
    rotate_left 1
    ·(go_simp; with_reducible rfl)
    try simp only [clL]
    refine a0l (v := ?_) rfl rfl (fun wx => ?_) ?_
    rotate_left 1
    ·(go_simp; with_reducible rfl)
    try simp only [clL]
    refine a0l (v := ?_) rfl rfl (fun wx => ?_) ?_
    rotate_left 1
    ·(go_simp; with_reducible rfl)
    try simp only [clL]
    refine a0A rfl rfl ?_
    refine a0j st11 2 rfl rfl rfl rfl (by first | (simp only [a0a]; done) | (simp only [List.length_append, a0a]; done)) (by first | (rw [a0a]; kernel_rfl) | (simp only [List.length_append, a0a]; kernel_rfl)) (b0g _ _ _) ?_
    intro w12 st12
    refine ⟨St.less st12 (by simp), ?_⟩
    try simp only [Act.put]
    refine a0r rfl rfl ?_
    go_simp
    try simp only [clL]
    refine a0k ?_
    exact key g7 _ st12
  ·skip
   refine b0f hd5 rfl (z := zAc) (by kernel_rfl) (cw 12 0) (by rw [a0e]; rfl) ?_
   intro g7 w13 st13
   refine ⟨St.less st13 (by simp), ?_⟩
   try simp only [clL]
   refine a0A rfl rfl ?_
   go_simp
   refine (d0z m gp _ HOK.out (HPM.out.keep st13.fr id) (tlN l) HTN.out).mono ?_
   rintro e' w14 ⟨rfl, hf14⟩
   have st14 := st13.keep hf14
   clear hf14
   refine ⟨St.less st14 (by simp), ?_⟩
   try simp only [clL]
   refine a0A rfl rfl ?_
   go_simp
   refine (x0q m gc gp bx by_ _ HOK.out (HCV.out.keep st14.fr id) (HPM.out.keep st14.fr id) (tlN l) r HR.out).mono ?_
   rintro e' w15 ⟨rfl, hf15⟩
   have st15 := st14.keep hf15
   clear hf15
   refine ⟨St.less st15 (by simp), ?_⟩
   try simp only [clL]
   refine a0l (v := ?_) rfl rfl (fun wx => ?_) ?_
   rotate_left 1
   ·(go_simp; with_reducible rfl)
   try simp only [clL]
   refine a0l (v := ?_) rfl rfl (fun wx => ?_) ?_
   rotate_left 1
   ·(go_simp; with_reducible rfl)
   try simp only [clL]
   refine a0l (v := ?_) rfl rfl (fun wx => ?_) ?_
   rotate_left 1
   ·(go_simp; with_reducible rfl)
   try simp only [clL]
   refine a0A rfl rfl ?_
   refine a0j st15 2 rfl rfl rfl rfl (by first | (simp only [a0a]; done) | (simp only [List.length_append, a0a]; done)) (by first | (rw [a0a]; kernel_rfl) | (simp only [List.length_append, a0a]; kernel_rfl)) (b0g _ _ _) ?_
   intro w16 st16
   refine ⟨St.less st16 (by simp), ?_⟩
   try simp only [Act.put]
   refine a0r rfl rfl ?_
   go_simp
   try simp only [clL]
   refine a0k ?_
   exact key g7 _ st16
 intro g7 w17 st17
 have st17 : St Nob w w17 [(g4, cw 4 0 ++ (cw 4 0 ++ cw 4 0), 117), (g6, cw 4 (tlN l), 111), (g7, cw 4 (elN m (tlN l)) ++ (cw 4 (elN m (atY m.M (tlN l))) ++ cw 4 (elN m 1)), 117)] := st17
 clear hd5
 refine NoPanic.normal ?_
 have hcell := b0J (HB.out.still st17.fr) _ H0.out
 go_wp2_with (with_reducible refine wSk 67 ?_)
 refine a0p st17 2 rfl rfl rfl Tryz.underlying117 rfl rfl (by first | (rw [a0a]; kernel_rfl) | (simp only [List.length_append, a0a]; kernel_rfl)) ?_
 go_wp2_with (with_reducible refine wSn ?_)
 refine a0b st17 0 rfl rfl rfl rfl rfl (by first | (simp only [a0a]; done) | (simp only [List.length_append, a0a]; done)) (by first | (rw [a0a]; kernel_rfl) | (simp only [List.length_append, a0a]; kernel_rfl)) (b0g _ _ _) ?_
 intro w18 st18
 clear st17
 have hr := st18.at 0 rfl
 have hfr := st18.fr
 clear st18
 go_wp2_with fail
 exact bodyPost_ret (a0P rfl rfl hr Tryz.underlying117 rfl (by first | (rw [a0a]; kernel_rfl) | (simp only [List.length_append, a0a]; kernel_rfl)) rfl) rfl ⟨by unfold ptV ptL; rfl, hfr⟩
theorem t0T (m : Md) (gc gp bx by_ : Nat) (w : World) (hok : m.Ok) (hcv : Has w gc (e0S m gp bx by_) 125) (hpm : Has w gp (mdL m) 187) (a : Option Addr) (n c : Nat) (l : List UInt8) (hb : RdB w a n l) (hc : n ≤ c) (h33 : l.length = 33) (h0 : (bs l)[0]? = some (.int .u8 3)) (hlt : decide (tlN l < m.M) = false) :
  Calls Tryz.prog 140 #[.pointer (some ⟨gc, 0, none⟩), .slice a n c] w fun e w' => e = .returned (.tuple #[ptV m 0 0 0, .bool false]) ∧ Fr Nob w w' := by
 have HOK := qH hok
 have HCV := qH hcv
 have HPM := qH hpm
 clear hok hcv hpm
 have h33n : n = 33 := by have := hb.len; omega
 subst h33n
 obtain ⟨ba, oa, rfl, -⟩ := Rd.at hb (by decide)
 have HB := qH hb
 have HC := qH hc
 have HT := qH (RdB.tail hb c (by decide) hc)
 have H0 := qH h0
 have HTN := qH (i0Q l h33)
 clear hb hc h33 h0
 have HDL := qH hlt
 clear hlt
 have st0 := St.start Nob w
 go_enter Tryz.func140, Tryz.ntmps140
 go_wp2_with (with_reducible refine wSk 4 ?_)
 refine a0c st0 rfl rfl (z := .agg (List.replicate 12 (.int .u64 0)).toArray) (by kernel_rfl) (cw 4 0 ++ (cw 4 0 ++ cw 4 0)) (by rw [a0e]; rfl) ?_
 intro g4 w1 st1
 clear st0
 have hne : (((33 : Nat) : Int) != 33) = false := by rfl
 go_wp2_with (with_reducible refine wSk 14 ?_)
 refine h0d rfl rfl Tryz.underlying22 e0I rfl 1 33 ⟨_, rfl⟩ rfl (by decide) HC.out ?_
 rw [show (33 : Nat) - 1 = 32 from rfl]
 go_wp2_with fail
 refine (g0e _ _ l _ (HT.out.still st1.fr)).mono ?_
 rintro e' w2 ⟨rfl, hf2⟩
 have st2 := st1.keep hf2
 clear st1 hf2
 go_wp2_with (with_reducible refine wSk 6 ?_)
 refine a0c st2 rfl rfl (z := zAd) (by kernel_rfl) (cw 4 0) (by rw [a0e]; rfl) ?_
 intro g6 w3 st3
 clear st2
 go_wp2_with (with_reducible refine wSn ?_)
 refine a0b st3 1 rfl rfl rfl rfl rfl (by first | (simp only [a0a]; done) | (simp only [List.length_append, a0a]; done)) (by first | (rw [a0a]; kernel_rfl) | (simp only [List.length_append, a0a]; kernel_rfl)) (a0g _ _) ?_
 intro w4 st4
 clear st3
 have hcell := b0J (HB.out.still st4.fr) _ H0.out
 go_wp2_with fail
 clear hcell
 go_wp2_with fail
 refine wp_region_noPanic ?_
 refine b0S (fun wx => St Nob w wx [(g4, cw 4 0 ++ (cw 4 0 ++ cw 4 0), 117), (g6, cw 4 (tlN l), 111)]) 22 (.w 0 (.w 1 (.t 2 (.w 3 (.w 4 (.w 5 (.w 6 (.t 7 (.w 8 (.w 9 (.w 10 (.t 11 (.w 12 (.w 13 (.w 14 (.t 15 (.w 16 (.w 17 (.t 18 (.r 19 (.w 20 (.w 21 (.m 22 .nil))))))))))))))))))))))) (by kernel_rfl) (by kernel_rfl) st4.drew (fun _ _ _ _ _ h => h) ?_
 have hd4 := st4.drew
 clear st4
 refine a0w (v := ?_) rfl rfl (fun wx => ?_) ?_
 rotate_left 1
 ·(go_simp; with_reducible rfl)
 try simp only [clL]
 refine a0w (v := ?_) rfl rfl (fun wx => ?_) ?_
 rotate_left 1
 ·(go_simp; with_reducible rfl)
 try simp only [clL]
 refine c0V (v := ?_) rfl rfl (fun wx hS => ?_) ?_
 rotate_left 1
 ·(have hc := (b0J (HB.out.still (St.fr hS)) _ H0.out); clear hS; go_simp; with_reducible rfl)
 try simp only [clL]
 refine a0w (v := ?_) rfl rfl (fun wx => ?_) ?_
 rotate_left 1
 ·(go_simp; with_reducible rfl)
 try simp only [clL]
 refine a0w (v := ?_) rfl rfl (fun wx => ?_) ?_
 rotate_left 1
 ·(go_simp; with_reducible rfl)
 try simp only [clL]
 refine a0w (v := ?_) rfl rfl (fun wx => ?_) ?_
 rotate_left 1
 ·(go_simp; with_reducible rfl)
 try simp only [clL]
 refine a0w (v := ?_) rfl rfl (fun wx => ?_) ?_
 rotate_left 1
 ·(go_simp; with_reducible rfl)
 try simp only [clL]
 refine c0V (v := ?_) rfl rfl (fun wx hS => ?_) ?_
 rotate_left 1
 ·(have hc := (b0J (HB.out.still (St.fr hS)) _ H0.out); clear hS; go_simp; with_reducible rfl)
 try simp only [clL]
 refine a0w (v := ?_) rfl rfl (fun wx => ?_) ?_
 rotate_left 1
 ·(go_simp; with_reducible rfl)
 try simp only [clL]
 refine a0w (v := ?_) rfl rfl (fun wx => ?_) ?_
 rotate_left 1
 ·(go_simp; with_reducible rfl)
 try simp only [clL]
 refine a0w (v := ?_) rfl rfl (fun wx => ?_) ?_
 rotate_left 1
 ·(go_simp; with_reducible rfl)
 try simp only [clL]
 refine c0P rfl rfl rfl rfl (cw 4 (tlN l)) (fun wx hS => St.rangeL hS 1 rfl 0 _ dZl) Tryz.underlying111 rfl (by first | (rw [a0a]; kernel_rfl) | (simp only [List.length_append, a0a]; kernel_rfl)) ?_
 try simp only [clL]
 refine a0w (v := ?_) rfl rfl (fun wx => ?_) ?_
 rotate_left 1
 ·(go_simp; with_reducible rfl)
 try simp only [clL]
 refine a0w (v := ?_) rfl rfl (fun wx => ?_) ?_
 rotate_left 1
 ·(go_simp; with_reducible rfl)
 try simp only [clL]
 refine a0w (v := ?_) rfl rfl (fun wx => ?_) ?_
 rotate_left 1
 ·(go_simp; with_reducible rfl)
 try simp only [clL]
 refine c0V (v := ?_) rfl rfl (fun wx hS => ?_) ?_
 rotate_left 1
 ·(have hc := (HCV.out.keep (St.fr hS) id).cell (i := 0) rfl; clear hS; go_simp; with_reducible rfl)
 try simp only [clL]
 refine a0w (v := ?_) rfl rfl (fun wx => ?_) ?_
 rotate_left 1
 ·(go_simp; with_reducible rfl)
 try simp only [clL]
 refine a0w (v := ?_) rfl rfl (fun wx => ?_) ?_
 rotate_left 1
 ·(go_simp; with_reducible rfl)
 try simp only [clL]
 refine c0P rfl rfl rfl rfl (cw 4 m.M) (fun wx hS => (HPM.out.keep (St.fr hS) id).range 0 _ (l0P m)) Tryz.underlying111 rfl (by first | (rw [a0a]; kernel_rfl) | (simp only [List.length_append, a0a]; kernel_rfl)) ?_
 try simp only [clL]
 refine j0W rfl rfl ?_
 go_simp
 refine (i0a (tlN l) m.M _ HTN.out HOK.out.lt false HDL.out).mono ?_
 rintro e' w5 ⟨rfl, hf5⟩
 have st5 := hd4.keep hf5
 clear hf5
 clear hd4
 refine ⟨st5, ?_⟩
 try simp only [clL]
 refine a0w (v := ?_) rfl rfl (fun wx => ?_) ?_
 rotate_left 1
 ·(go_simp; with_reducible rfl)
 try simp only [clL]
 refine a0w (v := ?_) rfl rfl (fun wx => ?_) ?_
 rotate_left 1
 ·(go_simp; with_reducible rfl)
 try simp only [clL]
 refine h0Z rfl rfl ?_
 go_simp
 try simp only [clL]
 refine e0y ?_
 refine NoPanic.normal ?_
 go_wp2_with (with_reducible refine wSk 48 ?_)
 refine c0t rfl rfl _ g0T ?_
 go_wp2_with (with_reducible refine wSn ?_)
 refine a0b st5 0 rfl rfl rfl rfl rfl (by first | (simp only; done) | (simp only [List.length_append, a0a]; done)) (by first | (rw [a0a]; kernel_rfl) | (simp only [List.length_append, a0a]; kernel_rfl)) (b0g _ _ _) ?_
 intro w6 st6
 clear st5
 have hr := st6.at 0 rfl
 have hfr := st6.fr
 clear st6
 go_wp2_with fail
 exact bodyPost_ret (a0P rfl rfl hr Tryz.underlying117 rfl (by first | (rw [a0a]; kernel_rfl) | (simp only [List.length_append, a0a]; kernel_rfl)) rfl) rfl ⟨by unfold ptV ptL; rw [d0y]; rfl, hfr⟩
theorem n0V (m : Md) (gc gp bx by_ : Nat) (w : World) (hok : m.Ok) (hcv : Has w gc (e0S m gp bx by_) 125) (hpm : Has w gp (mdL m) 187) (a : Option Addr) (n c : Nat) (l : List UInt8) (hb : RdB w a n l) (hc : n ≤ c) (h33 : l.length = 33) (h0 : (bs l)[0]? = some (.int .u8 3)) (hlt : decide (tlN l < m.M) = true) (r : Bool) (hr : b0T m.M (e0G (tlN l)) = r) :
  Calls Tryz.prog 140 #[.pointer (some ⟨gc, 0, none⟩), .slice a n c] w fun e w' => e = .returned (.tuple #[ptV m (tlN l) (m.M - (atY m.M (tlN l)) % m.M) 1, .bool r]) ∧ Fr Nob w w' := by
 have HOK := qH hok
 have HCV := qH hcv
 have HPM := qH hpm
 clear hok hcv hpm
 have h33n : n = 33 := by have := hb.len; omega
 subst h33n
 obtain ⟨ba, oa, rfl, -⟩ := Rd.at hb (by decide)
 have HB := qH hb
 have HC := qH hc
 have HT := qH (RdB.tail hb c (by decide) hc)
 have H0 := qH h0
 have HTN := qH (i0Q l h33)
 clear hb hc h33 h0
 have HDL := qH hlt
 clear hlt
 have HR := qH hr
 clear hr
 have st0 := St.start Nob w
 go_enter Tryz.func140, Tryz.ntmps140
 go_wp2_with (with_reducible refine wSk 4 ?_)
 refine a0c st0 rfl rfl (z := .agg (List.replicate 12 (.int .u64 0)).toArray) (by kernel_rfl) (cw 4 0 ++ (cw 4 0 ++ cw 4 0)) (by rw [a0e]; rfl) ?_
 intro g4 w1 st1
 clear st0
 have hne : (((33 : Nat) : Int) != 33) = false := by rfl
 go_wp2_with (with_reducible refine wSk 14 ?_)
 refine h0d rfl rfl Tryz.underlying22 e0I rfl 1 33 ⟨_, rfl⟩ rfl (by decide) HC.out ?_
 rw [show (33 : Nat) - 1 = 32 from rfl]
 go_wp2_with fail
 refine (g0e _ _ l _ (HT.out.still st1.fr)).mono ?_
 rintro e' w2 ⟨rfl, hf2⟩
 have st2 := st1.keep hf2
 clear st1 hf2
 go_wp2_with (with_reducible refine wSk 6 ?_)
 refine a0c st2 rfl rfl (z := zAd) (by kernel_rfl) (cw 4 0) (by rw [a0e]; rfl) ?_
 intro g6 w3 st3
 clear st2
 go_wp2_with (with_reducible refine wSn ?_)
 refine a0b st3 1 rfl rfl rfl rfl rfl (by first | (simp only [a0a]; done) | (simp only [List.length_append, a0a]; done)) (by first | (rw [a0a]; kernel_rfl) | (simp only [List.length_append, a0a]; kernel_rfl)) (a0g _ _) ?_
 intro w4 st4
 clear st3
 have hcell := b0J (HB.out.still st4.fr) _ H0.out
 go_wp2_with fail
 clear hcell
 go_wp2_with fail
 refine wp_region_noPanic ?_
 refine b0S (fun wx => St Nob w wx [(g4, cw 4 0 ++ (cw 4 0 ++ cw 4 0), 117), (g6, cw 4 (tlN l), 111)]) 22 (.w 0 (.w 1 (.t 2 (.w 3 (.w 4 (.w 5 (.w 6 (.t 7 (.w 8 (.w 9 (.w 10 (.t 11 (.w 12 (.w 13 (.w 14 (.t 15 (.w 16 (.w 17 (.t 18 (.r 19 (.w 20 (.w 21 (.m 22 .nil))))))))))))))))))))))) (by kernel_rfl) (by kernel_rfl) st4.drew (fun _ _ _ _ _ h => h) ?_
 have hd4 := st4.drew
 clear st4
 refine a0w (v := ?_) rfl rfl (fun wx => ?_) ?_
 rotate_left 1
 ·(go_simp; with_reducible rfl)
 try simp only [clL]
 refine a0w (v := ?_) rfl rfl (fun wx => ?_) ?_
 rotate_left 1
 ·(go_simp; with_reducible rfl)
 try simp only [clL]
 refine c0V (v := ?_) rfl rfl (fun wx hS => ?_) ?_
 rotate_left 1
 ·(have hc := (b0J (HB.out.still (St.fr hS)) _ H0.out); clear hS; go_simp; with_reducible rfl)
 try simp only [clL]
 refine a0w (v := ?_) rfl rfl (fun wx => ?_) ?_
 rotate_left 1
 ·(go_simp; with_reducible rfl)
 try simp only [clL]
 refine a0w (v := ?_) rfl rfl (fun wx => ?_) ?_
 rotate_left 1
 ·(go_simp; with_reducible rfl)
 try simp only [clL]
 refine a0w (v := ?_) rfl rfl (fun wx => ?_) ?_
 rotate_left 1
 ·(go_simp; with_reducible rfl)
 try simp only [clL]
 refine a0w (v := ?_) rfl rfl (fun wx => ?_) ?_
 rotate_left 1
 ·(go_simp; with_reducible rfl)
 try simp only [clL]
 refine c0V (v := ?_) rfl rfl (fun wx hS => ?_) ?_
 rotate_left 1
 ·(have hc := (b0J (HB.out.still (St.fr hS)) _ H0.out); clear hS; go_simp; with_reducible rfl)
 try simp only [clL]
 refine a0w (v := ?_) rfl rfl (fun wx => ?_) ?_
 rotate_left 1
 ·(go_simp; with_reducible rfl)
 try simp only [clL]
 refine a0w (v := ?_) rfl rfl (fun wx => ?_) ?_
 rotate_left 1
 ·(go_simp; with_reducible rfl)
 try simp only [clL]
 refine a0w (v := ?_) rfl rfl (fun wx => ?_) ?_
 rotate_left 1
 ·(go_simp; with_reducible rfl)
 try simp only [clL]
 refine c0P rfl rfl rfl rfl (cw 4 (tlN l)) (fun wx hS => St.rangeL hS 1 rfl 0 _ dZl) Tryz.underlying111 rfl (by first | (rw [a0a]; kernel_rfl) | (simp only [List.length_append, a0a]; kernel_rfl)) ?_
 try simp only [clL]
 refine a0w (v := ?_) rfl rfl (fun wx => ?_) ?_
 rotate_left 1
 ·(go_simp; with_reducible rfl)
 try simp only [clL]
 refine a0w (v := ?_) rfl rfl (fun wx => ?_) ?_
 rotate_left 1
 ·(go_simp; with_reducible rfl)
 try simp only [clL]
 refine a0w (v := ?_) rfl rfl (fun wx => ?_) ?_
 rotate_left 1
 ·(go_simp; with_reducible rfl)
 try simp only [clL]
 refine c0V (v := ?_) rfl rfl (fun wx hS => ?_) ?_
 rotate_left 1
 ·(have hc := (HCV.out.keep (St.fr hS) id).cell (i := 0) rfl; clear hS; go_simp; with_reducible rfl)
 try simp only [clL]
 refine a0w (v := ?_) rfl rfl (fun wx => ?_) ?_
 rotate_left 1
 ·(go_simp; with_reducible rfl)
 try simp only [clL]
 refine a0w (v := ?_) rfl rfl (fun wx => ?_) ?_
 rotate_left 1
 ·(go_simp; with_reducible rfl)
 try simp only [clL]
 refine c0P rfl rfl rfl rfl (cw 4 m.M) (fun wx hS => (HPM.out.keep (St.fr hS) id).range 0 _ (l0P m)) Tryz.underlying111 rfl (by first | (rw [a0a]; kernel_rfl) | (simp only [List.length_append, a0a]; kernel_rfl)) ?_
 try simp only [clL]
 refine j0W rfl rfl ?_
 go_simp
 refine (i0a (tlN l) m.M _ HTN.out HOK.out.lt true HDL.out).mono ?_
 rintro e' w5 ⟨rfl, hf5⟩
 have st5 := hd4.keep hf5
 clear hf5
 clear hd4
 refine ⟨st5, ?_⟩
 try simp only [clL]
 refine a0w (v := ?_) rfl rfl (fun wx => ?_) ?_
 rotate_left 1
 ·(go_simp; with_reducible rfl)
 try simp only [clL]
 refine a0w (v := ?_) rfl rfl (fun wx => ?_) ?_
 rotate_left 1
 ·(go_simp; with_reducible rfl)
 try simp only [clL]
 refine h0Z rfl rfl ?_
 go_simp
 try simp only [clL]
 refine e0y ?_
 refine NoPanic.normal ?_
 go_wp2_with fail
 refine wp_region_noPanic ?_
 refine a0o (fun wx => St Nob w wx [(g4, cw 4 0 ++ (cw 4 0 ++ cw 4 0), 117), (g6, cw 4 (tlN l), 111)]) 13 (.w 0 (.w 1 (.w 2 (.w 3 (.t 4 (.t 5 (.b 6 11 (.b 7 11 (.w 8 (.w 9 (.w 10 (.r 11 (.r 12 (.m 13 .nil)))))) (.r 7 (.w 8 (.w 9 (.w 10 (.r 12 (.m 13 .nil))))))) (.r 6 (.r 7 (.w 8 (.w 9 (.w 10 (.r 12 (.m 13 .nil)))))))))))))) (by kernel_rfl) (by kernel_rfl) st5.drew (fun _ _ _ _ _ h => h) ?_
 have hd5 := st5.drew
 clear st5
 refine a0l (v := ?_) rfl rfl (fun wx => ?_) ?_
 rotate_left 1
 ·(go_simp; with_reducible rfl)
 try simp only [clL]
 refine a0l (v := ?_) rfl rfl (fun wx => ?_) ?_
 rotate_left 1
 ·(go_simp; with_reducible rfl)
 try simp only [clL]
 refine a0l (v := ?_) rfl rfl (fun wx => ?_) ?_
 rotate_left 1
 ·(go_simp; with_reducible rfl)
 try simp only [clL]
 refine a0l (v := ?_) rfl rfl (fun wx => ?_) ?_
 rotate_left 1
 ·(go_simp; with_reducible rfl)
 try simp only [clL]
 refine d0v (v := ?_) rfl rfl (fun wx hS => ?_) ?_
 rotate_left 1
 ·(have hc := (HCV.out.keep (St.fr hS) id).cell (i := 0) rfl; clear hS; go_simp; with_reducible rfl)
 try simp only [clL]
 refine a0s rfl rfl rfl rfl (cw 4 (tlN l)) (fun wx hS => St.rangeL hS 1 rfl 0 _ dZl) Tryz.underlying111 rfl (by first | (rw [a0a]; kernel_rfl) | (simp only [List.length_append, a0a]; kernel_rfl)) ?_
 try simp only [clL]
 refine d0O (C := fun g7 wz => St Nob w wz [(g4, cw 4 0 ++ (cw 4 0 ++ cw 4 0), 117), (g6, cw 4 (tlN l), 111), (g7, cw 4 (elN m (tlN l)) ++ (cw 4 (elN m (atY m.M (tlN l))) ++ cw 4 (elN m 1)), 117)]) (F := ?_) (fun key => ?_) ?_
 rotate_left 1
 ·skip
  refine d0k rfl rfl rfl rfl ?_ ?_
  ·skip
   go_simp
   refine (d0z m gp _ HOK.out (HPM.out.keep hd5.fr id) (tlN l) HTN.out).mono ?_
   rintro e' w6 ⟨rfl, hf6⟩
   have st6 := hd5.keep hf6
   clear hf6
   refine ⟨st6, ?_⟩
   try simp only [clL]
   refine d0k rfl rfl rfl rfl ?_ ?_
   ·skip
    go_simp
    refine (x0q m gc gp bx by_ _ HOK.out (HCV.out.keep st6.fr id) (HPM.out.keep st6.fr id) (tlN l) r HR.out).mono ?_
    rintro e' w7 ⟨rfl, hf7⟩
    have st7 := st6.keep hf7
    clear hf7
    refine ⟨st7, ?_⟩
    try simp only [clL]
    refine a0l (v := ?_) rfl rfl (fun wx => ?_) ?_
    rotate_left 1
    ·(go_simp; with_reducible rfl)
    try simp only [clL]
    refine a0l (v := ?_) rfl rfl (fun wx => ?_) ?_
    rotate_left 1
    ·(go_simp; with_reducible rfl)
    try simp only [clL]
    refine a0l (v := ?_) rfl rfl (fun wx => ?_) ?_
    rotate_left 1
    ·(go_simp; with_reducible rfl)
    try simp only [clL]
    refine a0A rfl rfl ?_
    refine b0f st7 rfl (z := zAc) (by kernel_rfl) (cw 12 0) (by rw [a0e]; rfl) ?_
    intro g7 w8 st8
    refine ⟨St.less st8 (by simp), ?_⟩
    try simp only [clL]
    refine a0A rfl rfl ?_
    refine a0j st8 2 rfl rfl rfl rfl (by first | (simp only [a0a]; done) | (simp only [List.length_append, a0a]; done)) (by first | (rw [a0a]; kernel_rfl) | (simp only [List.length_append, a0a]; kernel_rfl)) (b0g _ _ _) ?_
    intro w9 st9
    refine ⟨St.less st9 (by simp), ?_⟩
    try simp only [Act.put]
    refine a0r rfl rfl ?_
    go_simp
    try simp only [clL]
    refine a0k ?_
    exact key g7 _ st9
   ·skip
    refine b0f st6 rfl (z := zAc) (by kernel_rfl) (cw 12 0) (by rw [a0e]; rfl) ?_
    intro g7 w10 st10
    refine ⟨St.less st10 (by simp), ?_⟩
    try simp only [clL]
    refine a0A rfl rfl ?_
    go_simp
    refine (x0q m gc gp bx by_ _ HOK.out (HCV.out.keep st10.fr id) (HPM.out.keep st10.fr id) (tlN l) r HR.out).mono ?_
    rintro e' w11 ⟨rfl, hf11⟩
    have st11 := st10.keep hf11
    clear hf11
    refine ⟨St.less st11 (by simp), ?_⟩
    try simp only [clL]
    refine a0l (v := ?_) rfl rfl (fun wx => ?_) ?_
    rotate_left 1
    ·(go_simp; with_reducible rfl)
    try simp only [clL]
    refine a0l (v := ?_) rfl rfl (fun wx => ?_) ?_
    rotate_left 1
    ·(go_simp; with_reducible rfl)
    try simp only [clL]
    refine a0l (v := ?_) rfl rfl (fun wx => ?_) ?_
    rotate_left 1
    ·(go_simp; with_reducible rfl)
    try simp only [clL]
    refine a0A rfl rfl ?_
    refine a0j st11 2 rfl rfl rfl rfl (by first | (simp only [a0a]; done) | (simp only [List.length_append, a0a]; done)) (by first | (rw [a0a]; kernel_rfl) | (simp only [List.length_append, a0a]; kernel_rfl)) (b0g _ _ _) ?_
    intro w12 st12
    refine ⟨St.less st12 (by simp), ?_⟩
    try simp only [Act.put]
    refine a0r rfl rfl ?_
    go_simp
    try simp only [clL]
    refine a0k ?_
    exact key g7 _ st12
  ·skip
   refine b0f hd5 rfl (z := zAc) (by kernel_rfl) (cw 12 0) (by rw [a0e]; rfl) ?_
   intro g7 w13 st13
   refine ⟨St.less st13 (by simp), ?_⟩
   try simp only [clL]
   refine a0A rfl rfl ?_
   go_simp
   refine (d0z m gp _ HOK.out (HPM.out.keep st13.fr id) (tlN l) HTN.out).mono ?_
   rintro e' w14 ⟨rfl, hf14⟩
   have st14 := st13.keep hf14
   clear hf14
   refine ⟨St.less st14 (by simp), ?_⟩
   try simp only [clL]
   refine a0A rfl rfl ?_
   go_simp
   refine (x0q m gc gp bx by_ _ HOK.out (HCV.out.keep st14.fr id) (HPM.out.keep st14.fr id) (tlN l) r HR.out).mono ?_
   rintro e' w15 ⟨rfl, hf15⟩
   have st15 := st14.keep hf15
   clear hf15
   refine ⟨St.less st15 (by simp), ?_⟩
   try simp only [clL]
   refine a0l (v := ?_) rfl rfl (fun wx => ?_) ?_
   rotate_left 1
   ·(go_simp; with_reducible rfl)
   try simp only [clL]
   refine a0l (v := ?_) rfl rfl (fun wx => ?_) ?_
   rotate_left 1
   ·(go_simp; with_reducible rfl)
   try simp only [clL]
   refine a0l (v := ?_) rfl rfl (fun wx => ?_) ?_
   rotate_left 1
   ·(go_simp; with_reducible rfl)
   try simp only [clL]
   refine a0A rfl rfl ?_
   refine a0j st15 2 rfl rfl rfl rfl (by first | (simp only [a0a]; done) | (simp only [List.length_append, a0a]; done)) (by first | (rw [a0a]; kernel_rfl) | (simp only [List.length_append, a0a]; kernel_rfl)) (b0g _ _ _) ?_
   intro w16 st16
   refine ⟨St.less st16 (by simp), ?_⟩
   try simp only [Act.put]
   refine a0r rfl rfl ?_
   go_simp
   try simp only [clL]
   refine a0k ?_
   exact key g7 _ st16
 intro g7 w17 st17
 have st17 : St Nob w w17 [(g4, cw 4 0 ++ (cw 4 0 ++ cw 4 0), 117), (g6, cw 4 (tlN l), 111), (g7, cw 4 (elN m (tlN l)) ++ (cw 4 (elN m (atY m.M (tlN l))) ++ cw 4 (elN m 1)), 117)] := st17
 clear hd5
 refine NoPanic.normal ?_
 have hcell := b0J (HB.out.still st17.fr) _ H0.out
 go_wp2_with (with_reducible refine wSk 65 ?_)
 refine a0p st17 2 rfl rfl rfl Tryz.underlying117 rfl rfl (by first | (rw [a0a]; kernel_rfl) | (simp only [List.length_append, a0a]; kernel_rfl)) ?_
 clear hcell
 go_wp2_with fail
 refine (p0i m gc gp bx by_ _ HOK.out (HCV.out.keep st17.fr id) (HPM.out.keep st17.fr id) (tlN l) (atY m.M (tlN l)) 1).mono ?_
 rintro e' w18 ⟨rfl, hf18⟩
 have st18 := st17.keep hf18
 clear st17 hf18
 go_wp2_with (with_reducible refine wSn ?_)
 refine a0b st18 2 rfl rfl rfl rfl rfl (by first | (simp only [a0a]; done) | (simp only [List.length_append, a0a]; done)) (by first | (rw [a0a]; kernel_rfl) | (simp only [List.length_append, a0a]; kernel_rfl)) (b0g _ _ _) ?_
 intro w19 st19
 clear st18
 go_wp2_with (with_reducible refine wSk 67 ?_)
 refine a0p st19 2 rfl rfl rfl Tryz.underlying117 rfl rfl (by first | (rw [a0a]; kernel_rfl) | (simp only [List.length_append, a0a]; kernel_rfl)) ?_
 go_wp2_with (with_reducible refine wSn ?_)
 refine a0b st19 0 rfl rfl rfl rfl rfl (by first | (simp only [a0a]; done) | (simp only [List.length_append, a0a]; done)) (by first | (rw [a0a]; kernel_rfl) | (simp only [List.length_append, a0a]; kernel_rfl)) (b0g _ _ _) ?_
 intro w20 st20
 clear st19
 have hr := st20.at 0 rfl
 have hfr := st20.fr
 clear st20
 go_wp2_with fail
 exact bodyPost_ret (a0P rfl rfl hr Tryz.underlying117 rfl (by first | (rw [a0a]; kernel_rfl) | (simp only [List.length_append, a0a]; kernel_rfl)) rfl) rfl ⟨by unfold ptV ptL; rfl, hfr⟩
end
section
open Go.RowKit Go.Mv Mvp Mvq
theorem j0X (l : List UInt8) (h : l.length = 33) (b : UInt8) (hb : l.getD 0 0 = b) : (bs l)[0]? = some (.int .u8 (b.toNat : Int)) := by
 cases l with
 | nil => cases h
 | cons x t =>
  have : x = b := by simpa using hb
  subst this
  rfl
theorem w0F {b : UInt8} {k : Nat} (h : b.toNat = k) : b = UInt8.ofNat k := by rw [← h]; simp
theorem j0Y (l : List UInt8) (h : l.length = 33) (hb : l.getD 0 0 = 2) : (bs l)[0]? = some (.int .u8 2) := by rw [j0X l h 2 hb]; rfl
theorem j0Z (l : List UInt8) (h : l.length = 33) (hb : l.getD 0 0 = 3) : (bs l)[0]? = some (.int .u8 3) := by rw [j0X l h 3 hb]; rfl
theorem n0W (l : List UInt8) (h : l.length = 33) (hb : l.getD 0 0 = 0) : (bs l)[0]? = some (.int .u8 0) := by rw [j0X l h 0 hb]; rfl
theorem r0A (b : Nat) : kc (mP.M - b % mP.M) = - kc b := by rw [d0d]; exact r0a b
theorem z0S (n : Nat) (hr : b0T mP.M (e0G n) = true) : kc (atY mP.M n) = kc (rtV fP (e0G n)) := by unfold atY; rw [if_pos hr, d0d]
theorem v0c (x y : Nat) (h : onC (.A (kc x) (kc y))) : (r0k x y h).L = ptL mP x y 1 := rfl
attribute [local irreducible] atY rtV b0T ptL e0G tlN r0k
theorem m0L (l : List UInt8) (h : d0A l = true) : ∃ t : PT, t.pt = e0L l ∧ ∀ (gc : Nat) (a : Option Addr) (n c : Nat) (w : World), Cv w gc → RdB w a n l → n ≤ c →
  Calls Tryz.prog 140 #[.pointer (some ⟨gc, 0, none⟩), .slice a n c] w fun e w' => e = .returned (.tuple #[.agg t.L.toArray, .bool true]) ∧ Fr Nob w w' := by
 have hon := y0w h
 unfold d0A at h
 unfold e0L at *
 simp only [Bool.and_eq_true, decide_eq_true_eq] at h
 obtain ⟨h33, h⟩ := h
 by_cases h0 : l.getD 0 0 = 0
 ·rw [if_pos h0] at h
  refine ⟨noT, by rw [if_pos h0, r0j], ?_⟩
  rintro gc a n c w ⟨gp, h1, h2⟩ hb hc
  exact l0G mP gc gp gXn gYn w c0l h1 h2 a n c l hb hc h33 (n0W l h33 h0) true h
 ·rw [if_neg h0] at h hon
  simp only [Bool.and_eq_true, decide_eq_true_eq] at h
  obtain ⟨h23, hlt, hr⟩ := h
  rw [← d0d] at hlt hr
  have hy := z0S _ hr
  rcases h23 with h2 | h3
  ·have h3 : ¬ l.getD 0 0 = 3 := by rw [h2]; decide
   rw [if_neg h3, ← hy] at hon
   refine ⟨r0k (tlN l) (atY mP.M (tlN l)) hon, ?_, ?_⟩
   ·rw [m0I, if_neg h0, if_neg h3, hy]
   ·rintro gc a n c w ⟨gp, g1, g2⟩ hb hc
    rw [v0c]
    exact n0U mP gc gp gXn gYn w c0l g1 g2 a n c l hb hc h33 (j0Y l h33 h2) (decide_eq_true hlt) true hr
  ·rw [if_pos h3, ← hy, ← r0A] at hon
   refine ⟨r0k (tlN l) (mP.M - atY mP.M (tlN l) % mP.M) hon, ?_, ?_⟩
   ·rw [m0I, if_neg h0, if_pos h3, r0A, hy]
   ·rintro gc a n c w ⟨gp, g1, g2⟩ hb hc
    rw [v0c]
    exact n0V mP gc gp gXn gYn w c0l g1 g2 a n c l hb hc h33 (j0Z l h33 h3) (decide_eq_true hlt) true hr
open Classical in
noncomputable def rdT (l : List UInt8) : PT := if h : d0A l = true then Classical.choose (m0L l h) else noT
theorem y0C {l : List UInt8} (h : d0A l = true) : (rdT l).pt = e0L l := by unfold rdT; rw [dif_pos h]; exact (Classical.choose_spec (m0L l h)).1
theorem v0d (l : List UInt8) (h : d0A l = true) (gc : Nat) (a : Option Addr) (n c : Nat) (w : World) (hcv : Cv w gc) (hb : RdB w a n l) (hc : n ≤ c) :
  Calls Tryz.prog 140 #[.pointer (some ⟨gc, 0, none⟩), .slice a n c] w fun e w' => e = .returned (.tuple #[.agg (rdT l).L.toArray, .bool true]) ∧ Fr Nob w w' := by
 unfold rdT; rw [dif_pos h]; exact (Classical.choose_spec (m0L l h)).2 gc a n c w hcv hb hc
theorem y0D (l : List UInt8) (h : d0A l = false) (gc : Nat) (a : Option Addr) (n c : Nat) (w : World) (hcv : Cv w gc) (hb : RdB w a n l) (hc : n ≤ c) :
  Calls Tryz.prog 140 #[.pointer (some ⟨gc, 0, none⟩), .slice a n c] w fun e w' => (∃ X Y Z, e = .returned (.tuple #[.agg (ptL mP X Y Z).toArray, .bool false])) ∧ Fr Nob w w' := by
 obtain ⟨gp, g1, g2⟩ := hcv
 unfold d0A at h
 by_cases h33 : l.length = 33
 ·rw [decide_eq_true h33, Bool.true_and] at h
  by_cases h0 : l.getD 0 0 = 0
  ·rw [if_pos h0] at h
   exact (l0G mP gc gp gXn gYn w c0l g1 g2 a n c l hb hc h33 (n0W l h33 h0) false h).mono fun _ _ t => ⟨⟨_, _, _, t.1⟩, t.2⟩
  ·rw [if_neg h0] at h
   by_cases h2 : l.getD 0 0 = 2
   ·rw [decide_eq_true (Or.inl h2), Bool.true_and] at h
    cases hlt : decide (tlN l < mP.M) with
    | false => exact (t0S mP gc gp gXn gYn w c0l g1 g2 a n c l hb hc h33 (j0Y l h33 h2) hlt).mono fun _ _ t => ⟨⟨_, _, _, t.1⟩, t.2⟩
    | true =>
     rw [← d0d, hlt, Bool.true_and] at h
     exact (n0U mP gc gp gXn gYn w c0l g1 g2 a n c l hb hc h33 (j0Y l h33 h2) hlt false h).mono fun _ _ t => ⟨⟨_, _, _, t.1⟩, t.2⟩
   ·by_cases h3 : l.getD 0 0 = 3
    ·rw [decide_eq_true (Or.inr h3), Bool.true_and] at h
     cases hlt : decide (tlN l < mP.M) with
     | false => exact (t0T mP gc gp gXn gYn w c0l g1 g2 a n c l hb hc h33 (j0Z l h33 h3) hlt).mono fun _ _ t => ⟨⟨_, _, _, t.1⟩, t.2⟩
     | true =>
      rw [← d0d, hlt, Bool.true_and] at h
      exact (n0V mP gc gp gXn gYn w c0l g1 g2 a n c l hb hc h33 (j0Z l h33 h3) hlt false h).mono fun _ _ t => ⟨⟨_, _, _, t.1⟩, t.2⟩
    ·have q0 : (((l.getD 0 0).toNat : Int) == 0) = false := by
      simp only [beq_eq_false_iff_ne, ne_eq]
      intro e
      exact h0 (w0F (k := 0) (by omega))
     have q2 : (((l.getD 0 0).toNat : Int) != 2) = true := by
      simp only [bne_iff_ne, ne_eq]
      intro e
      exact h2 (w0F (k := 2) (by omega))
     have q3 : (((l.getD 0 0).toNat : Int) != 3) = true := by
      simp only [bne_iff_ne, ne_eq]
      intro e
      exact h3 (w0F (k := 3) (by omega))
     exact (t0R mP gc gp gXn gYn w c0l g1 g2 a n c l hb hc h33 _ (j0X l h33 _ rfl) q0 q2 q3).mono fun _ _ t => ⟨⟨_, _, _, t.1⟩, t.2⟩
 ·exact (t0Q mP gc gp gXn gYn w c0l g1 g2 a n c l hb hc h33).mono fun _ _ t => ⟨⟨_, _, _, t.1⟩, t.2⟩
theorem y0E (z : Nat) : kc (z ^ (mP.M - 2)) = c0b (kc z) := by
 rw [show mP.M - 2 = fP - 2 by rw [d0d]]
 unfold c0b
 rw [e0H]
 generalize fP - 2 = n
 rw [← e0x (z ^ n), ← e0x ((z % fP) ^ n), ← Nat.pow_mod]
theorem y0F (x y : K) : b0Z (.A x y) = UInt8.ofNat (2 + y.val % 2) :: b0i x.val := rfl
theorem r0B (s : PT) (gc : Nat) (w : World) (hcv : Cv w gc) :
  Calls Tryz.prog 88 #[.pointer (some ⟨gc, 0, none⟩), .agg s.L.toArray] w fun e w' => ∃ sv, e = .returned sv ∧ Own w' w.heap.size 5 1 sv 33 (bs (b0Z s.pt)) ∧ Fr Nob w w' := by
 obtain ⟨gp, g1, g2⟩ := hcv
 cases hz : s.isO with
 | true =>
  rw [PT.isO_t hz]
  exact p0h mP gc gp gXn gYn w c0l g1 g2 s.x s.y s.z hz
 | false =>
  have hne := PT.isO_f hz
  have e : s.pt = .A (kc (s.x * (s.z ^ (mP.M - 2) * s.z ^ (mP.M - 2)))) (kc (s.y * (s.z ^ (mP.M - 2) * s.z ^ (mP.M - 2) * s.z ^ (mP.M - 2)))) := by
   show jk _ _ _ = _
   rw [t0x hne]
   simp only [a0E, y0E]
  rw [e]
  have hb := w0E mP gc gp gXn gYn w c0l g1 g2 s.x s.y s.z hz _ _ _ _ _ _ _ rfl rfl rfl rfl rfl rfl rfl
  refine hb.mono ?_
  rintro e' w' ⟨sv, h1, h2, h3⟩
  refine ⟨sv, h1, ?_, h3⟩
  rw [y0F, e0H, e0H, ← d0d]
  exact h2
end
section
open Go.RowKit Go.Mv Mvp Mvq
def e0T (ls : List (List UInt8)) : Bool := ls.all d0A
noncomputable def g0w (ls : List (List UInt8)) : List Value := ls.flatMap fun l => (rdT l).L
theorem w0G (m : Md) (x y z : Nat) : ∀ v ∈ ptL m x y z, v.oneCell' = true := b0g _ _ _
theorem l0H (ls : List (List UInt8)) (l : List UInt8) : g0w (ls ++ [l]) = g0w ls ++ (rdT l).L := by simp [g0w]
theorem w0H (ls : List (List UInt8)) (i : Nat) (h : i < ls.length) : ((g0w ls).drop (i * 12)).take (rdT (ls.getD i [])).L.length = (rdT (ls.getD i [])).L := by
 rw [PT.len]
 induction ls generalizing i with
 | nil => simp at h
 | cons l ls ih =>
  rw [g0w, List.flatMap_cons, ← g0w]
  cases i with
  | zero =>
   rw [Nat.zero_mul, List.drop_zero, List.take_append_of_le_length (by rw [PT.len]; exact Nat.le_refl _), List.take_of_length_le (by rw [PT.len]; exact Nat.le_refl _)]
   rfl
  | succ i =>
   rw [List.drop_append, PT.len, List.drop_of_length_le (by rw [PT.len]; omega), List.nil_append, show (i + 1) * 12 - 12 = i * 12 by omega, ih i (by simpa using h)]
   rfl
theorem l0I (ls : List (List UInt8)) (k : Nat) (h : k < ls.length) : e0T (ls.take (k + 1)) = (e0T (ls.take k) && d0A (ls.getD k [])) := by
 rw [List.take_succ_eq_append_getElem h, e0T, List.all_append, ← e0T]
 simp [List.getD_eq_getElem?_getD, h]
theorem n0X (ls : List (List UInt8)) (k : Nat) (h : k < ls.length) (hb : d0A (ls.getD k []) = false) : e0T ls = false := by
 rw [e0T, List.all_eq_false]
 refine ⟨ls.getD k [], ?_, by simpa using hb⟩
 rw [List.getD_eq_getElem?_getD, List.getElem?_eq_getElem h]
 exact List.getElem_mem h
theorem k0a : (Tryz.prog.info? 117).map (fun i => (i.zero, i.size, i.bytes)) = some (some (.agg (List.replicate 12 (.int .u64 0)).toArray), 12, 96) := by kernel_rfl
attribute [local irreducible] a0F lw mix cw b0n b0v b0k a0M a0q beN b0C b0i b0z a0J a0R elN mdL b0o rtN rtV b0T gXn gYn PT.L k0l j0R e0M tbL tmR tmL dbN g0S g0v j0V dig rdT d0A e0L ptL g0w e0T b0Z
theorem k0b (gk : Nat) (al : Option Addr) (n cl : Nat) (vs : List Value) (ls : List (List UInt8)) (w : World) (hv : Rd w al n vs) (hp : BParts w vs ls) (hn : n ≤ 100000) (hg : e0T ls = true) (t : PT) (hop : ∀ ap cp wx, Fr Nob w wx → Rd wx ap (ls.length * 12) (g0w ls) → Calls Tryz.prog 85 #[.slice ap ls.length cp, .pointer (some ⟨gk, 0, none⟩)] wx fun e w' => e = .returned (.agg t.L.toArray) ∧ Fr Nob wx w') :
  Calls Tryz.prog 84 #[.func (.func 85) #[] #[.pointer (some ⟨gk, 0, none⟩)], .slice al n cl] w fun e w' => ∃ sv, e = .returned (.tuple #[sv, .int .i64 0]) ∧ Own w' w.heap.size 5 1 sv 33 (bs (b0Z t.pt)) ∧ Fr Nob w w' := by
 have HV := qH hv
 have HP := qH hp
 have HL := qH (show ls.length = n by rw [← hp.1, hv.len])
 have HN := qH hn
 have hnI : (n : Int) ≤ 100000 := by omega
 clear hv hp
 have HOP := qH hop
 have HGA := qH hg
 clear hop hg
 go_enter Tryz.func84, Tryz.ntmps84
 go_wp2
 go_loopw [6, 13] (fun v i wr => ∃ k : Nat, k ≤ n ∧ i = .int .i64 (k : Int) ∧ e0T (ls.take k) = true ∧ Own wr w.heap.size 117 12 v k (g0w (ls.take k)) ∧ Fr Nob w wr) (fun _ i _ => n - (intOf i).toNat)
 case atStart => exact ⟨0, Nat.zero_le _, rfl, by rw [List.take_zero]; unfold e0T; rfl, by rw [List.take_zero]; unfold g0w; exact Own.nil _ _ _ _, Fr.refl _ _⟩
 case round =>
  obtain ⟨k, hk, rfl, hgood, hown, hf⟩ := hrel
  by_cases hlt : k < n
  ·have hltI : (k : Int) < (n : Int) := by omega
   obtain ⟨b, o, rfl, hat⟩ := (HV.out.still hf).at (by omega)
   have hvl : k < vs.length := by rw [HV.out.len]; exact hlt
   obtain ⟨a, nn, c, hve, hcc, hrd⟩ := HP.out.2 k (vs[k]'hvl) (List.getElem?_eq_getElem hvl)
   have hc1 := hat k _ (List.getElem?_eq_getElem hvl)
   rw [hve] at hc1
   have hlk : k < ls.length := by rw [HL.out]; exact hlt
   have hts := l0I ls k hlk
   have hcs : g0w (ls.take (k + 1)) = g0w (ls.take k) ++ (rdT (ls.getD k [])).L := by
    rw [List.take_succ_eq_append_getElem hlk, l0H]
    simp [List.getD_eq_getElem?_getD, hlk]
   have hbad := n0X ls k hlk
   generalize hL : ls.getD k [] = l at *
   have HLL := qH hL
   have HRD := qH (hrd.still hf)
   have HTS := qH hts
   have HCS := qH hcs
   have HBAD := qH hbad
   have HG := qH hgood
   have HOWN := qH hown
   have HF := qH hf
   have HCC := qH hcc
   clear hL hrd hts hcs hbad hgood hown hf hat hve hcc
   have st0 := St.start Nob wr
   have HK := qH (show d0A l = true by
    cases hh : d0A l
    ·have := HBAD.out hh
     rw [HGA.out] at this
     cases this
    ·rfl)
   skip
   go_wp2_with fail
   refine (h0W _).mono ?_
   rintro e' w1 ⟨gc, rfl, hle, hcv, hf1⟩
   have st1 := st0.keep hf1
   have HCV := qH hcv
   clear hcv hle
   clear st0 hf1
   go_wp2_with fail
   refine (v0d l HK.out gc a nn c _ HCV.out (HRD.out.still st1.fr) HCC.out).mono ?_
   rintro e' w2 ⟨rfl, hf2⟩
   have st2 := st1.keep hf2
   clear st1 hf2
   go_wp2_with (with_reducible refine wSk 9 ?_)
   refine a0c st2 rfl rfl (z := .agg (List.replicate 12 (.int .u64 0)).toArray) (by kernel_rfl) (cw 12 0) (by rw [a0e]; rfl) ?_
   intro g9 w3 st3
   clear st2
   go_wp2_with (with_reducible refine wSn ?_)
   refine a0b st3 0 rfl rfl rfl rfl rfl (by first | (simp only [a0a]; done) | (simp only [a0a, PT.len]; done)) (by first | (rw [a0a]; kernel_rfl) | (simp only [PT.len]; kernel_rfl)) (PT.one _) ?_
   intro w4 st4
   clear st3
   have HFS := qH st4.fr
   go_wp2_with (with_reducible refine wSk 26 ?_)
   refine a0p st4 0 rfl rfl rfl Tryz.underlying117 rfl rfl (by first | (rw [a0a]; kernel_rfl) | (simp only [PT.len]; kernel_rfl)) ?_
   clear st4
   go_wp2_with (with_reducible refine wSk 27 ?_)
   refine j0H rfl rfl Tryz.underlying115 k0a [.agg (rdT l).L.toArray] rfl (by simp [Value.cells, PT.len]) rfl ((rdT l).L) (by simp [Value.cells]) ?_
   intro wA hgA hfA hzA
   clear hzA
   have hfrA := HFS.out.then hfA
   have hsz := HF.out.size
   have hsz2 := hfrA.size
   have hownA := HOWN.out.still hfrA
   have hrdA : Rd wA (some ⟨w4.heap.size, 0, none⟩) (1 * 12) ((rdT l).L) := by
    have := Rd.whole hgA
    rwa [PT.len] at this
   have HRDA := qH hrdA
   have HOWNA := qH hownA
   have HFRA := qH hfrA
   clear hgA hfA hrdA hownA hfrA
   generalize w4.heap.size = gA at *
   go_wp2_with (with_reducible refine wSk 28 ?_)
   refine e0j rfl rfl Tryz.underlying115 k0a rfl (by decide) HOWNA.out rfl rfl HRDA.out (PT.one _) (by unfold maxLen; omega) (by omega) (by omega) ?_
   intro vB wB hownB hfB hbB
   clear hbB
   have hfrB := HOWNA.out.fr (HF.out.then HFRA.out) (Nat.le_refl _) hfB
   have HFRB := qH hfrB
   rw [← HCS.out] at hownB
   have HOWNB := qH hownB
   clear hfrB hownB hfB
   go_wp2_with fail
   go_roundw
   case rel => exact ⟨k + 1, by omega, by go_num, by rw [HTS.out, HG.out, HK.out]; rfl, HOWNB.out, HFRB.out⟩
   case measure => simp [intOf]; omega
  ·have hge : ¬ ((k : Int) < (n : Int)) := by omega
   have hkn : k = ls.length := by rw [HL.out]; omega
   rw [hkn, List.take_of_length_le (Nat.le_refl _)] at hgood hown
   obtain ⟨ap, cp, rfl, -, hre, -⟩ := hown.form
   have HRE := qH hre
   have HF := qH hf
   clear hkn hgood hown hf hre
   go_wp2_with fail
   refine (h0W _).mono ?_
   rintro e w1 ⟨gc, rfl, hle, hcv, hf1⟩
   have HCV := qH hcv
   have HF1 := qH (HF.out.then hf1)
   have HRE1 := qH (HRE.out.still hf1)
   clear hle hcv hf1 HF HRE
   go_wp2_with fail
   refine (HOP.out ap cp _ HF1.out HRE1.out).mono ?_
   rintro e w2 ⟨rfl, hf2⟩
   have HCV2 := qH (HCV.out.keep hf2)
   have HF2 := qH (HF1.out.then hf2)
   clear hf2 HF1 HRE1 HCV
   go_wp2_with fail
   refine (r0B t gc _ HCV2.out).mono ?_
   rintro e w3 ⟨sv, rfl, hown3, hf3⟩
   have h2 := HF2.out.then hf3
   have ho := hown3.mono HF2.out.size
   clear hown3 hf3 HF2 HCV2
   go_wp2_with fail
   go_ret2
   exact ⟨sv, rfl, ho, h2⟩
theorem i0o (gk : Nat) (al : Option Addr) (n cl : Nat) (vs : List Value) (ls : List (List UInt8)) (w : World) (hv : Rd w al n vs) (hp : BParts w vs ls) (hn : n ≤ 100000) (hg : e0T ls = false) :
  Calls Tryz.prog 84 #[.func (.func 85) #[] #[.pointer (some ⟨gk, 0, none⟩)], .slice al n cl] w fun e w' => e = .returned (.tuple #[.slice none 0 0, .int .i64 4]) ∧ Fr Nob w w' := by
 have HV := qH hv
 have HP := qH hp
 have HL := qH (show ls.length = n by rw [← hp.1, hv.len])
 have HN := qH hn
 have hnI : (n : Int) ≤ 100000 := by omega
 clear hv hp
 have HGA := qH hg
 clear hg
 go_enter Tryz.func84, Tryz.ntmps84
 go_wp2
 go_loopw [6, 13] (fun v i wr => ∃ k : Nat, k ≤ n ∧ i = .int .i64 (k : Int) ∧ e0T (ls.take k) = true ∧ Own wr w.heap.size 117 12 v k (g0w (ls.take k)) ∧ Fr Nob w wr) (fun _ i _ => n - (intOf i).toNat)
 case atStart => exact ⟨0, Nat.zero_le _, rfl, by rw [List.take_zero]; unfold e0T; rfl, by rw [List.take_zero]; unfold g0w; exact Own.nil _ _ _ _, Fr.refl _ _⟩
 case round =>
  obtain ⟨k, hk, rfl, hgood, hown, hf⟩ := hrel
  by_cases hlt : k < n
  ·have hltI : (k : Int) < (n : Int) := by omega
   obtain ⟨b, o, rfl, hat⟩ := (HV.out.still hf).at (by omega)
   have hvl : k < vs.length := by rw [HV.out.len]; exact hlt
   obtain ⟨a, nn, c, hve, hcc, hrd⟩ := HP.out.2 k (vs[k]'hvl) (List.getElem?_eq_getElem hvl)
   have hc1 := hat k _ (List.getElem?_eq_getElem hvl)
   rw [hve] at hc1
   have hlk : k < ls.length := by rw [HL.out]; exact hlt
   have hts := l0I ls k hlk
   have hcs : g0w (ls.take (k + 1)) = g0w (ls.take k) ++ (rdT (ls.getD k [])).L := by
    rw [List.take_succ_eq_append_getElem hlk, l0H]
    simp [List.getD_eq_getElem?_getD, hlk]
   have hbad := n0X ls k hlk
   generalize hL : ls.getD k [] = l at *
   have HLL := qH hL
   have HRD := qH (hrd.still hf)
   have HTS := qH hts
   have HCS := qH hcs
   have HBAD := qH hbad
   have HG := qH hgood
   have HOWN := qH hown
   have HF := qH hf
   have HCC := qH hcc
   clear hL hrd hts hcs hbad hgood hown hf hat hve hcc
   have st0 := St.start Nob wr
   rcases Bool.eq_false_or_eq_true (d0A l) with hh | hh
   ·have HK := qH hh
    clear hh
    skip
    go_wp2_with fail
    refine (h0W _).mono ?_
    rintro e' w1 ⟨gc, rfl, hle, hcv, hf1⟩
    have st1 := st0.keep hf1
    have HCV := qH hcv
    clear hcv hle
    clear st0 hf1
    go_wp2_with fail
    refine (v0d l HK.out gc a nn c _ HCV.out (HRD.out.still st1.fr) HCC.out).mono ?_
    rintro e' w2 ⟨rfl, hf2⟩
    have st2 := st1.keep hf2
    clear st1 hf2
    go_wp2_with (with_reducible refine wSk 9 ?_)
    refine a0c st2 rfl rfl (z := .agg (List.replicate 12 (.int .u64 0)).toArray) (by kernel_rfl) (cw 12 0) (by rw [a0e]; rfl) ?_
    intro g9 w3 st3
    clear st2
    go_wp2_with (with_reducible refine wSn ?_)
    refine a0b st3 0 rfl rfl rfl rfl rfl (by first | (simp only [a0a]; done) | (simp only [a0a, PT.len]; done)) (by first | (rw [a0a]; kernel_rfl) | (simp only [PT.len]; kernel_rfl)) (PT.one _) ?_
    intro w4 st4
    clear st3
    have HFS := qH st4.fr
    go_wp2_with (with_reducible refine wSk 26 ?_)
    refine a0p st4 0 rfl rfl rfl Tryz.underlying117 rfl rfl (by first | (rw [a0a]; kernel_rfl) | (simp only [PT.len]; kernel_rfl)) ?_
    clear st4
    go_wp2_with (with_reducible refine wSk 27 ?_)
    refine j0H rfl rfl Tryz.underlying115 k0a [.agg (rdT l).L.toArray] rfl (by simp [Value.cells, PT.len]) rfl ((rdT l).L) (by simp [Value.cells]) ?_
    intro wA hgA hfA hzA
    clear hzA
    have hfrA := HFS.out.then hfA
    have hsz := HF.out.size
    have hsz2 := hfrA.size
    have hownA := HOWN.out.still hfrA
    have hrdA : Rd wA (some ⟨w4.heap.size, 0, none⟩) (1 * 12) ((rdT l).L) := by
     have := Rd.whole hgA
     rwa [PT.len] at this
    have HRDA := qH hrdA
    have HOWNA := qH hownA
    have HFRA := qH hfrA
    clear hgA hfA hrdA hownA hfrA
    generalize w4.heap.size = gA at *
    go_wp2_with (with_reducible refine wSk 28 ?_)
    refine e0j rfl rfl Tryz.underlying115 k0a rfl (by decide) HOWNA.out rfl rfl HRDA.out (PT.one _) (by unfold maxLen; omega) (by omega) (by omega) ?_
    intro vB wB hownB hfB hbB
    clear hbB
    have hfrB := HOWNA.out.fr (HF.out.then HFRA.out) (Nat.le_refl _) hfB
    have HFRB := qH hfrB
    rw [← HCS.out] at hownB
    have HOWNB := qH hownB
    clear hfrB hownB hfB
    go_wp2_with fail
    go_roundw
    case rel => exact ⟨k + 1, by omega, by go_num, by rw [HTS.out, HG.out, HK.out]; rfl, HOWNB.out, HFRB.out⟩
    case measure => simp [intOf]; omega
   ·have HK := qH hh
    clear hh
    skip
    go_wp2_with fail
    refine (h0W _).mono ?_
    rintro e' w1 ⟨gc, rfl, hle, hcv, hf1⟩
    have st1 := st0.keep hf1
    have HCV := qH hcv
    clear hcv hle
    clear st0 hf1
    go_wp2_with fail
    refine (y0D l HK.out gc a nn c _ HCV.out (HRD.out.still st1.fr) HCC.out).mono ?_
    rintro e' w2 ⟨⟨X, Y, Z, rfl⟩, hf2⟩
    have st2 := st1.keep hf2
    clear st1 hf2
    go_wp2_with (with_reducible refine wSk 9 ?_)
    refine a0c st2 rfl rfl (z := .agg (List.replicate 12 (.int .u64 0)).toArray) (by kernel_rfl) (cw 12 0) (by rw [a0e]; rfl) ?_
    intro g9 w3 st3
    clear st2
    go_wp2_with (with_reducible refine wSn ?_)
    refine a0b st3 0 rfl rfl rfl rfl rfl (by first | (simp only [a0a]; done) | (simp only [a0a, a0S]; done)) (by first | (rw [a0a]; kernel_rfl) | (simp only [a0S]; kernel_rfl)) (w0G _ _ _ _) ?_
    intro w4 st4
    clear st3
    have HFS := qH (HF.out.then st4.fr)
    clear st4
    go_wp2_with fail
    go_ret2
    exact ⟨rfl, HFS.out⟩
  ·exfalso
   have hkn : k = ls.length := by rw [HL.out]; omega
   rw [hkn, List.take_of_length_le (Nat.le_refl _), HGA.out] at hgood
   cases hgood
end
section
open Go.RowKit Go.Mv Mvp Mvq
theorem z0A (la : List UInt8) (ls : List (List UInt8)) : ((g0w (la :: ls)).drop 0).take (rdT la).L.length = (rdT la).L := w0H (la :: ls) 0 (by simp)
attribute [local irreducible] a0F lw mix cw b0n b0v b0k a0M a0q beN b0C b0i b0z a0J a0R elN mdL b0o rtN rtV b0T gXn gYn PT.L k0l j0R e0M tbL tmR tmL dbN g0S g0v j0V dig rdT d0A e0L ptL g0w e0T b0Z
theorem t0U (la : List UInt8) (w : World) (n : Nat) (gk : Nat) (hkn : Has w gk (cw 4 n) 111) (ap : Option Addr) (cp : Nat) (hre : Rd w ap ([la].length * 12) (g0w [la])) :
  Calls Tryz.prog 85 #[.slice ap 1 cp, .pointer (some ⟨gk, 0, none⟩)] w fun e w' => e = .returned (.agg (j0V [(n, rdT la)]).L.toArray) ∧ Fr Nob w w' := by
 obtain ⟨bb, oo, rfl, -⟩ := hre.at (by simp)
 have HRE := qH hre
 have HKN := qH hkn
 clear hre hkn
 have st0 := St.start Nob w
 go_enter Tryz.func85, Tryz.ntmps85
 go_wp2_with (with_reducible refine wSk 3 ?_)
 refine a0c st0 rfl rfl (z := .agg (List.replicate 12 (.int .u64 0)).toArray) (by kernel_rfl) (cw 12 0) (by rw [a0e]; rfl) ?_
 intro gr w1 st1
 clear st0
 go_wp2_with fail
 refine wp_region_noPanic ?_
 refine a0o (fun wx => St Nob w wx [(gr, cw 12 0, 117)]) 6 (.t 1 (.w 2 (.w 3 (.t 4 (.r 0 (.r 5 (.m 6 .nil))))))) (by kernel_rfl) (by kernel_rfl) st1.drew (fun _ _ _ _ _ h => h) ?_
 have hd1 := st1.drew
 clear st1
 refine a0s rfl rfl rfl rfl (cw 4 n) (fun wx hS => (HKN.out.keep (St.fr hS) id).range 0 _ dZl) Tryz.underlying111 rfl (by first | (rw [a0a]; kernel_rfl) | (rw [PT.len]; kernel_rfl) | (rw [a0S]; kernel_rfl) | (simp only [List.length_append, a0a]; kernel_rfl) | (simp only [List.length_append, a0a, PT.len, a0S]; kernel_rfl)) ?_
 try simp only [clL]
 refine a0l (v := ?_) rfl rfl (fun wx => ?_) ?_
 rotate_left 1
 ·(go_simp; with_reducible rfl)
 try simp only [clL]
 refine a0l (v := ?_) rfl rfl (fun wx => ?_) ?_
 rotate_left 1
 ·(go_simp; with_reducible rfl)
 try simp only [clL]
 refine a0s rfl rfl rfl rfl ((rdT la).L) (fun wx hS => (j0J (HRE.out.still (St.fr hS)) 0 _ (z0A la []))) Tryz.underlying117 rfl (by first | (rw [a0a]; kernel_rfl) | (simp only [PT.len]; kernel_rfl)) ?_
 try simp only [clL]
 refine a0A rfl rfl ?_
 go_simp
 refine (h0W _).mono ?_
 rintro e' w2 ⟨gc, rfl, hle, hcv, hf2⟩
 have st2 := hd1.keep hf2
 have HCV := qH hcv
 clear hcv hle
 clear hf2
 clear hd1
 refine ⟨st2, ?_⟩
 try simp only [clL]
 refine a0A rfl rfl ?_
 go_simp
 refine (w0C n (rdT la) gc _ HCV.out).mono ?_
 rintro e' w3 ⟨rfl, hf3⟩
 have st3 := st2.keep hf3
 clear hf3
 clear st2
 refine ⟨st3, ?_⟩
 try simp only [clL]
 refine a0r rfl rfl ?_
 refine a0j st3 0 rfl rfl rfl rfl (by first | (simp only [a0a]; done) | (simp only [a0a, PT.len]; done)) (by first | (rw [a0a]; kernel_rfl) | (simp only [PT.len]; kernel_rfl)) (PT.one _) ?_
 intro w4 st4
 clear st3
 try simp only [Act.put]
 refine a0k ?_
 refine NoPanic.normal ?_
 have hr := st4.at 0 rfl
 have hfr := st4.fr
 clear st4
 go_wp2_with fail
 exact bodyPost_ret (a0u rfl rfl hr Tryz.underlying117 rfl (by first | (rw [a0a]; kernel_rfl) | (simp only [PT.len]; kernel_rfl))) rfl ⟨rfl, hfr⟩
theorem p0j (m : Md) (hk : KindOf 1 m) (a : Option Addr) (n c : Nat) (l : List UInt8) (w : World) (hb : RdB w a n l) (h32 : l.length ≠ 32) :
  Calls Tryz.prog 83 #[.slice a n c] w fun e w' => e = .returned (.tuple #[i4 0, .bool false]) ∧ Fr Nob w w' := by
 have HK := qH hk
 have HOK := qH hk.ok
 clear hk
 have hne : ((n : Int) != 32) = true := by have := hb.len; simp; omega
 clear h32 hb
 have st0 := St.start Nob w
 go_enter Tryz.func83, Tryz.ntmps83
 go_wp2_with (with_reducible refine wSk 2 ?_)
 refine a0c st0 rfl rfl (z := zAd) (by kernel_rfl) (cw 4 0) (by rw [a0e]; rfl) ?_
 intro g2 w1 st1
 clear st0
 go_wp2_with (with_reducible refine wSk 10 ?_)
 refine c0t rfl rfl _ n0S ?_
 rw [n0T]
 go_wp2_with (with_reducible refine wSn ?_)
 refine a0b st1 0 rfl rfl rfl rfl rfl (by first | (simp only [a0a]; done) | (simp only [List.length_append, a0a, PT.len, a0S]; done)) (by first | (rw [a0a]; kernel_rfl) | (rw [PT.len]; kernel_rfl) | (rw [a0S]; kernel_rfl) | (simp only [List.length_append, a0a]; kernel_rfl) | (simp only [List.length_append, a0a, PT.len, a0S]; kernel_rfl)) (a0g _ _) ?_
 intro w2 st2
 clear st1
 have hr := st2.at 0 rfl
 have hfr := st2.fr
 clear st2
 go_wp2_with fail
 exact bodyPost_ret (b0c rfl rfl hr Tryz.underlying111 (by first | (rw [a0a]; kernel_rfl) | (rw [PT.len]; kernel_rfl) | (rw [a0S]; kernel_rfl) | (simp only [List.length_append, a0a]; kernel_rfl) | (simp only [List.length_append, a0a, PT.len, a0S]; kernel_rfl)) rfl) rfl ⟨rfl, hfr⟩
theorem i0R (m : Md) (hk : KindOf 1 m) (a : Option Addr) (n c : Nat) (l : List UInt8) (w : World) (hb : RdB w a n l) (h32 : l.length = 32) (r : Bool) (hlt : decide (beN l < m.M) = r) :
  Calls Tryz.prog 83 #[.slice a n c] w fun e w' => e = .returned (.tuple #[i4 (beN l), .bool r]) ∧ Fr Nob w w' := by
 have HK := qH hk
 have HOK := qH hk.ok
 clear hk
 have hbl := f0z l (by omega)
 have HBL := qH hbl
 have h32' : n = 32 := by have := hb.len; omega
 subst h32'
 have HB := qH hb
 have HLT := qH hlt
 have hne : (((32 : Nat) : Int) != 32) = false := by rfl
 clear hb hbl h32 hlt
 have st0 := St.start Nob w
 go_enter Tryz.func83, Tryz.ntmps83
 go_wp2_with (with_reducible refine wSk 2 ?_)
 refine a0c st0 rfl rfl (z := zAd) (by kernel_rfl) (cw 4 0) (by rw [a0e]; rfl) ?_
 intro g2 w1 st1
 clear st0
 go_wp2_with fail
 refine (OfK HK.out _).mono ?_
 rintro e' w2 ⟨gp, rfl, hle, hm, hf2⟩
 have st2 : St Nob w w2 [(g2, cw 4 0, 111), (gp, mdL m, 187)] := st1.new hf2 hm hle
 clear st1 hf2 hm hle
 go_wp2_with fail
 refine (c0v a 32 c l _ (HB.out.still st2.fr) (by decide)).mono ?_
 rintro e' w3 ⟨rfl, hf3⟩
 have st3 := st2.keep hf3
 clear st2 hf3
 go_wp2_with (with_reducible refine wSk 6 ?_)
 refine a0c st3 rfl rfl (z := zAd) (by kernel_rfl) (cw 4 0) (by rw [a0e]; rfl) ?_
 intro g6 w4 st4
 clear st3
 go_wp2_with (with_reducible refine wSn ?_)
 refine a0b st4 2 rfl rfl rfl rfl rfl (by first | (simp only [a0a]; done) | (simp only [List.length_append, a0a, PT.len, a0S]; done)) (by first | (rw [a0a]; kernel_rfl) | (rw [PT.len]; kernel_rfl) | (rw [a0S]; kernel_rfl) | (simp only [List.length_append, a0a]; kernel_rfl) | (simp only [List.length_append, a0a, PT.len, a0S]; kernel_rfl)) (a0g _ _) ?_
 intro w5 st5
 clear st4
 go_wp2_with fail
 refine wp_region_noPanic ?_
 refine a0o (fun wx => St Nob w wx [(g2, cw 4 0, 111), (gp, mdL m, 187), (g6, cw 4 (beN l), 111)]) 7 (.t 0 (.t 1 (.w 2 (.w 3 (.w 4 (.t 5 (.r 6 (.m 7 (.w 8 .nil))))))))) (by kernel_rfl) (by kernel_rfl) st5.drew (fun _ _ _ _ _ h => h) ?_
 have hd5 := st5.drew
 clear st5
 refine a0s rfl rfl rfl rfl (cw 4 (beN l)) (fun wx hS => St.rangeL hS 2 rfl 0 _ dZl) Tryz.underlying111 rfl (by first | (rw [a0a]; kernel_rfl) | (rw [PT.len]; kernel_rfl) | (rw [a0S]; kernel_rfl) | (simp only [List.length_append, a0a]; kernel_rfl) | (simp only [List.length_append, a0a, PT.len, a0S]; kernel_rfl)) ?_
 try simp only [clL]
 refine a0s rfl rfl rfl rfl (cw 4 (beN l)) (fun wx hS => St.rangeL hS 2 rfl 0 _ dZl) Tryz.underlying111 rfl (by first | (rw [a0a]; kernel_rfl) | (rw [PT.len]; kernel_rfl) | (rw [a0S]; kernel_rfl) | (simp only [List.length_append, a0a]; kernel_rfl) | (simp only [List.length_append, a0a, PT.len, a0S]; kernel_rfl)) ?_
 try simp only [clL]
 refine a0l (v := ?_) rfl rfl (fun wx => ?_) ?_
 rotate_left 1
 ·(go_simp; with_reducible rfl)
 try simp only [clL]
 refine a0l (v := ?_) rfl rfl (fun wx => ?_) ?_
 rotate_left 1
 ·(go_simp; with_reducible rfl)
 try simp only [clL]
 refine a0l (v := ?_) rfl rfl (fun wx => ?_) ?_
 rotate_left 1
 ·(go_simp; with_reducible rfl)
 try simp only [clL]
 refine a0s rfl rfl rfl rfl (cw 4 m.M) (fun wx hS => St.rangeL hS 1 rfl 0 _ (l0P m)) Tryz.underlying111 rfl (by first | (rw [a0a]; kernel_rfl) | (rw [PT.len]; kernel_rfl) | (rw [a0S]; kernel_rfl) | (simp only [List.length_append, a0a]; kernel_rfl) | (simp only [List.length_append, a0a, PT.len, a0S]; kernel_rfl)) ?_
 try simp only [clL]
 refine a0A rfl rfl ?_
 go_simp
 refine (i0a (beN l) m.M _ HBL.out HOK.out.lt r HLT.out).mono ?_
 rintro e' w6 ⟨rfl, hf6⟩
 have st6 := hd5.keep hf6
 clear hf6
 clear hd5
 refine ⟨st6, ?_⟩
 try simp only [clL]
 refine a0r rfl rfl ?_
 refine a0j st6 0 rfl rfl rfl rfl (by first | (simp only [a0a]; done) | (simp only [List.length_append, a0a, PT.len, a0S]; done)) (by first | (rw [a0a]; kernel_rfl) | (rw [PT.len]; kernel_rfl) | (rw [a0S]; kernel_rfl) | (simp only [List.length_append, a0a]; kernel_rfl) | (simp only [List.length_append, a0a, PT.len, a0S]; kernel_rfl)) (a0g _ _) ?_
 intro w7 st7
 clear st6
 try simp only [Act.put]
 refine a0l (v := ?_) rfl rfl (fun wx => ?_) ?_
 rotate_left 1
 ·(go_simp; with_reducible rfl)
 try simp only [clL]
 refine a0k ?_
 refine NoPanic.normal ?_
 have hr := st7.at 0 rfl
 have hfr := st7.fr
 clear st7
 go_wp2_with fail
 exact bodyPost_ret (b0c rfl rfl hr Tryz.underlying111 (by first | (rw [a0a]; kernel_rfl) | (rw [PT.len]; kernel_rfl) | (rw [a0S]; kernel_rfl) | (simp only [List.length_append, a0a]; kernel_rfl) | (simp only [List.length_append, a0a, PT.len, a0S]; kernel_rfl)) rfl) rfl ⟨rfl, hfr⟩
theorem n0Y {l : List UInt8} (h : b0o mQ l = true) (a : Option Addr) (n c : Nat) (w : World) (hb : RdB w a n l) : Calls Tryz.prog 83 #[.slice a n c] w fun e w' => e = .returned (.tuple #[i4 (beN l), .bool true]) ∧ Fr Nob w w' := by
 unfold b0o at h
 simp only [Bool.and_eq_true, decide_eq_true_eq] at h
 exact i0R mQ .one a n c l w hb h.1 true (decide_eq_true h.2)
theorem t0V {l : List UInt8} (h : b0o mQ l = false) (a : Option Addr) (n c : Nat) (w : World) (hb : RdB w a n l) : Calls Tryz.prog 83 #[.slice a n c] w fun e w' => (∃ N, e = .returned (.tuple #[i4 N, .bool false])) ∧ Fr Nob w w' := by
 unfold b0o at h
 by_cases h32 : l.length = 32
 ·rw [decide_eq_true h32, Bool.true_and] at h
  exact (i0R mQ .one a n c l w hb h32 false h).mono fun _ _ t => ⟨⟨_, t.1⟩, t.2⟩
 ·exact (p0j mQ .one a n c l w hb h32).mono fun _ _ t => ⟨⟨_, t.1⟩, t.2⟩
end
section
open Go.RowKit Go.Mv Mvp Mvq
theorem p0k {gp : Nat} : ((e0S mP gp gXn gYn).drop 5).take l0C.L.length = l0C.L := t0k mP gp gXn gYn
theorem l0J : (Tryz.prog.info? 22).map (fun i => (i.zero, i.size, i.bytes)) = some (some (.slice none 0 0), 1, 24) := by kernel_rfl
attribute [local irreducible] a0F lw mix cw b0n b0v b0k a0M a0q beN b0C b0i b0z a0J a0R elN mdL b0o rtN rtV b0T gXn gYn PT.L k0l j0R e0M tbL tmR tmL dbN g0S g0v j0V dig rdT d0A e0L ptL g0w e0T b0Z
theorem r0C (vk va : Value) (lk la : List UInt8) (w : World) (hpk : BPart w vk lk) (hpa : BPart w va la) (hk : b0o mQ lk = true) (hg : e0T [la] = true) :
  Calls Tryz.prog 28 #[vk, va] w fun e w' => ∃ v, e = .returned (.tuple #[v, .int .i64 0]) ∧ Own w' w.heap.size 5 1 v 33 (bs (b0Z (j0V [(beN lk, rdT la)]).pt)) ∧ Fr Nob w w' := by
 have HP := qH (BParts.one hpa)
 have HA1 := qH (BPart.one hpa)
 have HK := qH hk
 obtain ⟨ak, nk, ck, rfl, -, hrk⟩ := hpk
 have HRK := qH hrk
 have HG := qH hg
 clear hg hpa hk hrk
 have st0 := St.start Nob w
 go_enter Tryz.func28, Tryz.ntmps28
 go_wp2_with fail
 refine (n0Y HK.out ak nk ck _ (HRK.out.still st0.fr)).mono ?_
 rintro e' w1 ⟨rfl, hf1⟩
 have st1 := st0.keep hf1
 clear st0 hf1
 go_wp2_with (with_reducible refine wSk 6 ?_)
 refine a0c st1 rfl rfl (z := zAd) (by kernel_rfl) (cw 4 0) (by rw [a0e]; rfl) ?_
 intro gk w2 st2
 clear st1
 go_wp2_with (with_reducible refine wSn ?_)
 refine a0b st2 0 rfl rfl rfl rfl rfl (by first | (simp only [a0a]; done) | (simp only [List.length_append, a0a, PT.len, a0S]; done)) (by first | (rw [a0a]; kernel_rfl) | (rw [PT.len]; kernel_rfl) | (rw [a0S]; kernel_rfl) | (simp only [List.length_append, a0a]; kernel_rfl) | (simp only [List.length_append, a0a, PT.len, a0S]; kernel_rfl)) (a0g _ _) ?_
 intro w3 st3
 clear st2
 have HKN := qH (st3.at 0 rfl)
 have HF1 := qH st3.fr
 clear st3
 go_wp2_with (with_reducible refine wSk 17 ?_)
 refine c0T (vs := [va]) (hgd := rfl) (ho := rfl) (hu := Tryz.underlying39) (hi0 := l0J) (hp := by rfl) (hv := (fun v hv => by simp at hv; subst hv; exact HA1.out)) (hk := by rfl) (hz := by rfl) (h := ?_)
 intro wS hgS hfS hzS
 clear hzS
 generalize w3.heap.size = gl at *
 have HF2 := qH (HF1.out.then hfS)
 have HKN2 := qH (HKN.out.keep hfS id)
 have HRD := qH (show Rd wS (some ⟨gl, 0, none⟩) 1 [va] from Rd.whole hgS)
 clear hgS hfS HF1 HKN
 go_wp2_with fail
 refine (k0b gk _ 1 1 [va] [la] _ HRD.out (HP.out.still HF2.out) (by decide) HG.out (j0V [(beN lk, rdT la)]) (fun ap cp wx hfx hrx => t0U la wx (beN lk) gk (HKN2.out.keep hfx id) ap cp hrx)).mono ?_
 rintro e wE ⟨v, rfl, hown, hfE⟩
 have h3 := HF2.out.then hfE
 have ho := hown.mono HF2.out.size
 clear hown hfE HF2
 go_wp2_with fail
 go_ret2
 exact ⟨v, rfl, ho, h3⟩
theorem m0M (vk va : Value) (lk la : List UInt8) (w : World) (hpk : BPart w vk lk) (hpa : BPart w va la) (hk : b0o mQ lk = true) (hg : e0T [la] = false) :
  Calls Tryz.prog 28 #[vk, va] w fun e w' => e = .returned (.tuple #[.slice none 0 0, .int .i64 4]) ∧ Fr Nob w w' := by
 have HP := qH (BParts.one hpa)
 have HA1 := qH (BPart.one hpa)
 have HK := qH hk
 obtain ⟨ak, nk, ck, rfl, -, hrk⟩ := hpk
 have HRK := qH hrk
 have HG := qH hg
 clear hg hpa hk hrk
 have st0 := St.start Nob w
 go_enter Tryz.func28, Tryz.ntmps28
 go_wp2_with fail
 refine (n0Y HK.out ak nk ck _ (HRK.out.still st0.fr)).mono ?_
 rintro e' w1 ⟨rfl, hf1⟩
 have st1 := st0.keep hf1
 clear st0 hf1
 go_wp2_with (with_reducible refine wSk 6 ?_)
 refine a0c st1 rfl rfl (z := zAd) (by kernel_rfl) (cw 4 0) (by rw [a0e]; rfl) ?_
 intro gk w2 st2
 clear st1
 go_wp2_with (with_reducible refine wSn ?_)
 refine a0b st2 0 rfl rfl rfl rfl rfl (by first | (simp only [a0a]; done) | (simp only [List.length_append, a0a, PT.len, a0S]; done)) (by first | (rw [a0a]; kernel_rfl) | (rw [PT.len]; kernel_rfl) | (rw [a0S]; kernel_rfl) | (simp only [List.length_append, a0a]; kernel_rfl) | (simp only [List.length_append, a0a, PT.len, a0S]; kernel_rfl)) (a0g _ _) ?_
 intro w3 st3
 clear st2
 have HKN := qH (st3.at 0 rfl)
 have HF1 := qH st3.fr
 clear st3
 go_wp2_with (with_reducible refine wSk 17 ?_)
 refine c0T (vs := [va]) (hgd := rfl) (ho := rfl) (hu := Tryz.underlying39) (hi0 := l0J) (hp := by rfl) (hv := (fun v hv => by simp at hv; subst hv; exact HA1.out)) (hk := by rfl) (hz := by rfl) (h := ?_)
 intro wS hgS hfS hzS
 clear hzS
 generalize w3.heap.size = gl at *
 have HF2 := qH (HF1.out.then hfS)
 have HKN2 := qH (HKN.out.keep hfS id)
 have HRD := qH (show Rd wS (some ⟨gl, 0, none⟩) 1 [va] from Rd.whole hgS)
 clear hgS hfS HF1 HKN
 go_wp2_with fail
 refine (i0o gk _ 1 1 [va] [la] _ HRD.out (HP.out.still HF2.out) (by decide) HG.out).mono ?_
 rintro e wE ⟨rfl, hfE⟩
 have h3 := HF2.out.then hfE
 clear hfE HF2
 go_wp2_with fail
 go_ret2
 exact ⟨rfl, h3⟩
theorem m0N (vk va : Value) (lk la : List UInt8) (w : World) (hpk : BPart w vk lk) (hpa : BPart w va la) (hk : b0o mQ lk = false) :
  Calls Tryz.prog 28 #[vk, va] w fun e w' => e = .returned (.tuple #[.slice none 0 0, .int .i64 3]) ∧ Fr Nob w w' := by
 have HP := qH (BParts.one hpa)
 have HA1 := qH (BPart.one hpa)
 have HK := qH hk
 obtain ⟨ak, nk, ck, rfl, -, hrk⟩ := hpk
 have HRK := qH hrk
 clear hpa hk hrk
 have st0 := St.start Nob w
 go_enter Tryz.func28, Tryz.ntmps28
 go_wp2_with fail
 refine (t0V HK.out ak nk ck _ (HRK.out.still st0.fr)).mono ?_
 rintro e' w1 ⟨⟨N, rfl⟩, hf1⟩
 have st1 := st0.keep hf1
 clear st0 hf1
 go_wp2_with (with_reducible refine wSk 6 ?_)
 refine a0c st1 rfl rfl (z := zAd) (by kernel_rfl) (cw 4 0) (by rw [a0e]; rfl) ?_
 intro gk w2 st2
 clear st1
 go_wp2_with (with_reducible refine wSn ?_)
 refine a0b st2 0 rfl rfl rfl rfl rfl (by first | (simp only [a0a]; done) | (simp only [List.length_append, a0a, PT.len, a0S]; done)) (by first | (rw [a0a]; kernel_rfl) | (rw [PT.len]; kernel_rfl) | (rw [a0S]; kernel_rfl) | (simp only [List.length_append, a0a]; kernel_rfl) | (simp only [List.length_append, a0a, PT.len, a0S]; kernel_rfl)) (a0g _ _) ?_
 intro w3 st3
 clear st2
 have hfr := st3.fr
 clear st3
 go_wp2_with fail
 go_ret2
 exact ⟨rfl, hfr⟩
theorem w0I (w : World) : Calls Tryz.prog 29 #[] w fun e w' => ∃ v, e = .returned v ∧ Own w' w.heap.size 5 1 v 33 (bs (b0Z l0C.pt)) ∧ Fr Nob w w' := by
 go_enter Tryz.func29, Tryz.ntmps29
 go_wp2_with fail
 refine (h0W _).mono ?_
 rintro e w1 ⟨gc, rfl, hle, hcv, hf1⟩
 have HCV := qH hcv
 have HF1 := qH hf1
 clear hle hcv hf1
 go_wp2_with fail
 refine (h0W _).mono ?_
 rintro e w2 ⟨gd, rfl, hle, ⟨gq, hc2, hm2⟩, hf2⟩
 have HCV2 := qH (HCV.out.keep hf2)
 have HF2 := qH (HF1.out.then hf2)
 clear hle hm2 hf2 HCV HF1
 go_wp2_with (with_reducible refine wSk 5 ?_)
 refine s0D rfl rfl Tryz.underlying117 rfl rfl (cs := l0C.L) (fun i v hv => hc2.range 5 _ p0k i v hv) (by rw [PT.len]; kernel_rfl) ?_
 clear hc2
 go_wp2_with fail
 refine (r0B l0C gc _ HCV2.out).mono ?_
 rintro e w3 ⟨v, rfl, hown, hf3⟩
 have h3 := HF2.out.then hf3
 have ho := hown.mono HF2.out.size
 clear hown hf3 HF2 HCV2
 go_wp2_with fail
 go_ret
 exact ⟨v, rfl, ho, h3⟩
end
end Go.Proofs.YtemcankmggmgoaaGreat
namespace Mvq
theorem l0K : ∀ (l : List (Nat × Pt)) (n : Nat) (p : Pt), (∀ t ∈ l, onC t.2) → onC p → h0S (l ++ [(n, p)]) = a0Y (h0S l) (b0b n p)
 | [], n, p, _, _ => by show a0Y (b0b n p) .O = a0Y .O (b0b n p); rw [b0H]; rfl
 | (k, q) :: l, n, p, h, hp => by
  have hl : ∀ t ∈ l, onC t.2 := fun t ht => h t (List.mem_cons_of_mem _ ht)
  show a0Y (b0b k q) (h0S (l ++ [(n, p)])) = a0Y (a0Y (b0b k q) (h0S l)) (b0b n p)
  rw [l0K l n p hl hp, a0V (b0a (h (k, q) (by simp)) k) (h0T l hl) (b0a hp n)]
end Mvq
namespace Go.Proofs.YtemcankmggmgoaaGreat
open Go.RowKit Go.Mv Mvp Mvq
noncomputable def n0Z (l : List (Nat × PT)) : List (Nat × Pt) := l.map fun t => (t.1, t.2.pt)
theorem r0D (l : List (Nat × PT)) : ∀ t ∈ n0Z l, onC t.2 := by
 intro t ht
 obtain ⟨u, _, rfl⟩ := List.mem_map.1 ht
 exact u.2.onP
theorem r0E (l : List (Nat × PT)) (i : Nat) (o : PT) : ∀ k, k ≤ l.length → (g0S l i o k).pt = a0Y o.pt (h0S ((n0Z (l.take k)).map fun t => (dig (63 - i) t.1, t.2)))
 | 0, _ => by show o.pt = a0Y o.pt .O; rw [b0H]
 | k + 1, h => by
  have ih := r0E l i o k (by omega)
  have hk : k < l.length := by omega
  have e : l.take (k + 1) = l.take k ++ [g0R l k] := by
   rw [List.take_succ_eq_append_getElem hk]
   simp [g0R, List.getD_eq_getElem?_getD, hk]
  have hon : ∀ t ∈ (n0Z (l.take k)).map (fun t => (dig (63 - i) t.1, t.2)), onC t.2 := by
   intro t ht
   obtain ⟨u, hu, rfl⟩ := List.mem_map.1 ht
   exact r0D _ u hu
  rw [e, n0Z, List.map_append, List.map_append, ← n0Z]
  show (k0l (g0S l i o k) (e0M (g0R l k).2 (dig (63 - i) (g0R l k).1))).pt = a0Y o.pt (h0S ((n0Z (l.take k)).map (fun t => (dig (63 - i) t.1, t.2)) ++ [(dig (63 - i) (g0R l k).1, (g0R l k).2.pt)]))
  rw [r0h, r0n, ih, l0K _ _ _ hon (g0R l k).2.onP, a0V o.onP (h0T _ hon) (b0a (g0R l k).2.onP _)]
theorem r0F (l : List (Nat × PT)) (hn : ∀ t ∈ l, t.1 < 16 ^ 64) : ∀ i, i ≤ 64 → (g0v l i).pt = h0S (p0u (64 - i) (n0Z l))
 | 0, _ => by
  show noT.pt = _
  rw [r0j]
  have : ∀ l : List (Nat × PT), (∀ t ∈ l, t.1 < 16 ^ 64) → h0S (p0u 64 (n0Z l)) = .O := by
   intro l
   induction l with
   | nil => intro _; rfl
   | cons t l ih =>
    intro h
    show a0Y (b0b (t.1 / 16 ^ 64) t.2.pt) (h0S (p0u 64 (n0Z l))) = .O
    rw [Nat.div_eq_of_lt (h t (by simp)), ih fun u hu => h u (List.mem_cons_of_mem _ hu)]
    rfl
  exact (this l hn).symm
 | i + 1, h => by
  have ih := r0F l hn i (by omega)
  show (g0S l i (dbN (g0v l i) 4) l.length).pt = _
  rw [r0E l i _ l.length (Nat.le_refl _), y0z _ rfl, ih, List.take_of_length_le (Nat.le_refl _)]
  have := l0x (63 - i) (n0Z l) (r0D l)
  rw [show 63 - i + 1 = 64 - i by omega] at this
  rw [show 64 - (i + 1) = 63 - i by omega]
  exact this.symm
theorem w0J (l : List (Nat × PT)) (hn : ∀ t ∈ l, t.1 < 16 ^ 64) : (j0V l).pt = h0S (n0Z l) := by
 have h := r0F l hn 64 (Nat.le_refl _)
 rw [Nat.sub_self] at h
 have e : p0u 0 (n0Z l) = n0Z l := by
  unfold p0u
  conv => rhs; rw [← List.map_id (n0Z l)]
  refine List.map_congr_left fun t _ => ?_
  show (t.1 / 16 ^ 0, t.2) = t
  rw [Nat.pow_zero, Nat.div_one]
 rw [e] at h
 exact h
theorem Own.part {w : World} {base : Nat} {v : Value} {l : List UInt8} (h : Own w base 5 1 v l.length (bs l)) : BPart w v l := by
 obtain ⟨a, c, rfl, hc, hr, -⟩ := h.form
 exact ⟨a, _, c, rfl, hc, by rwa [Nat.mul_one] at hr⟩
def OwnB1 (w w' : World) (v : Value) (l : List UInt8) : Prop := Own w' w.heap.size 5 1 v l.length (bs l)
theorem OwnB1.part {w w' : World} {v : Value} {l : List UInt8} (h : OwnB1 w w' v l) : BPart w' v l := Own.part h
theorem OwnB1.nil (w w' : World) : OwnB1 w w' (.slice none 0 0) [] := Own.nil _ _ _ _
theorem OwnB1.of {w w' : World} {v : Value} {l : List UInt8} {n : Nat} (h : Own w' w.heap.size 5 1 v n (bs l)) (hn : l.length = n) : OwnB1 w w' v l := by subst hn; exact h
theorem q16 : mQ.M < 16 ^ 64 := by decide
noncomputable def tS (lk la : List UInt8) : List UInt8 := if b0o mQ lk && d0A la then b0Z (b0b (beN lk) (e0L la)) else []
def tC (lk la : List UInt8) : Int := if b0o mQ lk then (if d0A la then 0 else 4) else 3
theorem e0J {l : List UInt8} (h : b0o mQ l = true) : beN l < mQ.M := by
 unfold b0o at h
 simp only [Bool.and_eq_true, decide_eq_true_eq] at h
 exact h.2
theorem t0W (vk va : Value) (lk la : List UInt8) (w : World) (hpk : BPart w vk lk) (hpa : BPart w va la) :
  Calls Tryz.prog 28 #[vk, va] w fun e w' => ∃ v, e = .returned (.tuple #[v, .int .i64 (tC lk la)]) ∧ OwnB1 w w' v (tS lk la) ∧ Fr Nob w w' := by
 unfold tS tC
 cases hk : b0o mQ lk
 ·exact (m0N vk va lk la w hpk hpa hk).mono fun e w' k => ⟨_, k.1, OwnB1.nil _ _, k.2⟩
 ·cases h : d0A la
  ·exact (m0M vk va lk la w hpk hpa hk (by simpa [e0T] using h)).mono fun e w' k => ⟨_, k.1, OwnB1.nil _ _, k.2⟩
  ·refine (r0C vk va lk la w hpk hpa hk (by simp [e0T, h])).mono fun e w' ⟨v, k1, k2, k3⟩ => ⟨v, k1, ?_, k3⟩
   have e1 : (j0V [(beN lk, rdT la)]).pt = b0b (beN lk) (e0L la) := by
    rw [w0J _ (by intro t ht; simp only [List.mem_singleton] at ht; subst ht; exact Nat.lt_trans (e0J hk) q16)]
    show a0Y (b0b (beN lk) (rdT la).pt) .O = _
    rw [b0H, y0C h]
   rw [e1] at k2
   exact OwnB1.of k2 (d0e _)
def gP : Pt := .A (kc gXn) (kc gYn)
theorem w0K (w : World) : Calls Tryz.prog 29 #[] w fun e w' => ∃ v, e = .returned v ∧ OwnB1 w w' v (b0Z gP) ∧ Fr Nob w w' :=
 (w0I w).mono fun e w' ⟨v, k1, k2, k3⟩ => ⟨v, k1, by rw [t0D] at k2; exact OwnB1.of k2 (d0e _), k3⟩
end Go.Proofs.YtemcankmggmgoaaGreat
namespace Mvp
end Mvp
namespace Go.Proofs.YtemcankmggmgoaaGreat
open Go.RowKit Go.Mv Mvp Mvq
def PtB (w : World) (a : Option Addr) (c : Nat) (p : Pt) : Prop := BPart w (.slice a 33 c) (b0Z p)
theorem PtB.still {w w' : World} {a : Option Addr} {c : Nat} {p : Pt} (h : PtB w a c p) (hf : Fr Nob w w') : PtB w' a c p := BPart.still h hf
theorem PtB.of {w w' : World} {v : Value} {p : Pt} (h : OwnB1 w w' v (b0Z p)) : ∃ a c, v = .slice a 33 c ∧ PtB w' a c p := by
 obtain ⟨a, n, c, rfl, hc, hr⟩ := h.part
 have : n = 33 := by have := hr.len; rw [d0e] at this; exact this.symm
 subst this
 exact ⟨a, c, rfl, a, 33, c, rfl, hc, hr⟩
theorem y0G : onC gP := by unfold gP; exact j0T
end Go.Proofs.YtemcankmggmgoaaGreat
namespace Mvq
open Mvp
def frc {α : Type} (n : Nat) (f : Nat → α) : α := Nat.rec (f 0) (fun k _ => f (k + 1)) n
theorem y0H {α : Type} (n : Nat) (f : Nat → α) : frc n f = f n := by cases n <;> rfl
def hX : Nat := 0x79BE667EF9DCBBAC55A06295CE870B07029BFCDB2DCE28D959F2815B16F81798
def hY : Nat := 0x483ADA7726A3C4655DA4FBFC0E1108A8FD17B448A68554199C47D08FFB10D4B8
def hP : Pt := .A (kc hX) (kc hY)
theorem c0Q : onC hP := by
 show kc hY * kc hY = kc hX * kc hX * kc hX + 7
 decide
abbrev qN : Nat := 115792089237316195423570985008687907852837564279074904382605163141518161494337
theorem z0B : qN = pQ := by decide
def i0S (e : Nat) : Nat → Nat → Nat → Nat → Bool
 | 0, X, Y, Z => !(Z % fP == 0) && X % fP == hX * Z % fP && (Y + hY * Z) % fP == 0
 | k + 1, X, Y, Z =>
  !(Z % fP == 0) &&
  frc (3 * (X * X) % fP) fun d => frc (2 * Y * Z % fP) fun u => frc (u * u % fP) fun uu => frc (uu * u % fP) fun uuu => frc ((d * d * Z + (fP - 2 * X * uu % fP)) % fP) fun t =>
  frc (u * t % fP) fun X' => frc ((d * (X * uu + (fP - t % fP)) + (fP - Y * uuu % fP)) % fP) fun Y' => frc (uuu * Z % fP) fun Z' =>
  if e / 2 ^ k % 2 = 1 then
   !(Z' % fP == 0) && 
   frc ((hY * Z' + (fP - Y' % fP)) % fP) fun d => frc ((hX * Z' + (fP - X' % fP)) % fP) fun u => !(u % fP == 0) && frc (u * u % fP) fun uu => frc (uu * u % fP) fun uuu => frc ((d * d * Z' + (fP - uuu % fP) + (fP - 2 * X' * uu % fP)) % fP) fun t =>
   frc (u * t % fP) fun X2 => frc ((d * (X' * uu + (fP - t % fP)) + (fP - Y' * uuu % fP)) % fP) fun Y2 => frc (uuu * Z' % fP) fun Z2 => i0S e k X2 Y2 Z2
  else i0S e k X' Y' Z'
theorem w0L : i0S (qN - 1) 255 hX hY 1 = true := by decide +kernel
theorem y0I (a b : Nat) (h : a % fP = b % fP) : kc a = kc b := by rw [← e0x a, h, e0x]
theorem t0X (a : Nat) (h : a % fP ≠ 0) : kc a ≠ 0 := by
 intro e
 have := r0b a
 rw [e, decide_eq_true rfl] at this
 exact h (by simpa using this)
theorem l0R (a : Nat) : kc (a % fP) = kc a := e0x a
theorem k0c (e : Nat) : ∀ (k X Y Z : Nat), i0S e k X Y Z = true → nm (kc X) (kc Y) (kc Z) = b0b (e / 2 ^ k) hP → b0b e hP = g0b hP
 | 0, X, Y, Z, h, hp => by
  simp only [i0S, Bool.and_eq_true, Bool.not_eq_true', beq_iff_eq, beq_eq_false_iff_ne, ne_eq] at h
  obtain ⟨⟨hz, hx⟩, hy⟩ := h
  rw [Nat.pow_zero, Nat.div_one] at hp
  rw [← hp]
  have hx' := y0I _ _ hx
  rw [a0E] at hx'
  have hy' : kc (Y + hY * Z) = 0 := by
   have := r0b (Y + hY * Z)
   rw [hy] at this
   simpa using this
  rw [g0c, a0E] at hy'
  exact p0c (t0X _ hz) hx' (by grind -lia -linarith)
 | k + 1, X, Y, Z, h, hp => by
  have hon : onC (nm (kc X) (kc Y) (kc Z)) := by rw [hp]; exact b0a c0Q _
  simp only [i0S, y0H, Bool.and_eq_true, Bool.not_eq_true', beq_eq_false_iff_ne, ne_eq] at h
  obtain ⟨hz, h⟩ := h
  have hd := l0w hon (t0X _ hz) _ _ _ _ _ _ rfl rfl rfl rfl rfl rfl
  rw [hp] at hd
  have hbit := n0P c0Q e k
  generalize hd0 : 3 * (X * X) % fP = d at h
  generalize hu0 : 2 * Y * Z % fP = u at h
  generalize huu : u * u % fP = uu at h
  generalize huuu : uu * u % fP = uuu at h
  generalize ht : (d * d * Z + (fP - 2 * X * uu % fP)) % fP = t at h
  generalize hX' : u * t % fP = X' at h
  generalize hY' : (d * (X * uu + (fP - t % fP)) + (fP - Y * uuu % fP)) % fP = Y' at h
  generalize hZ' : uuu * Z % fP = Z' at h
  have k2 : kc 2 = 2 := by decide
  have k3' : kc 3 = 3 := by decide
  have d1 : kc d = 3 * (kc X * kc X) := by rw [← hd0, l0R, a0E, a0E, k3']
  have u1 : kc u = 2 * kc Y * kc Z := by rw [← hu0, l0R, a0E, a0E, k2]
  have uu1 : kc uu = kc u * kc u := by rw [← huu, l0R, a0E]
  have uuu1 : kc uuu = kc uu * kc u := by rw [← huuu, l0R, a0E]
  have t1 : kc t = kc d * kc d * kc Z - 2 * kc X * kc uu := by rw [← ht, l0R, c0I, a0E, a0E, a0E, a0E, k2]
  have X1 : kc X' = kc u * kc t := by rw [← hX', l0R, a0E]
  have Y1 : kc Y' = kc d * (kc X * kc uu - kc t) - kc Y * kc uuu := by rw [← hY', l0R, c0I, a0E, c0I, a0E, a0E]
  have Z1 : kc Z' = kc uuu * kc Z := by rw [← hZ', l0R, a0E]
  rw [← d1, ← u1, ← uu1, ← uuu1, ← t1, ← X1, ← Y1, ← Z1] at hd
  rw [← hd] at hbit
  clear d1 u1 uu1 uuu1 t1 X1 Y1 Z1 hd0 hu0 huu huuu ht hX' hY' hZ'
  have hon' : onC (nm (kc X') (kc Y') (kc Z')) := by rw [hd]; exact c0g (b0a c0Q _) (b0a c0Q _)
  by_cases hb : e / 2 ^ k % 2 = 1
  ·rw [if_pos hb] at h hbit
   simp only [Bool.and_eq_true, Bool.not_eq_true', beq_eq_false_iff_ne, ne_eq] at h
   obtain ⟨hz', hu', h⟩ := h
   have one : kc 1 = 1 := by decide
   have hnP : nm (kc hX) (kc hY) (kc 1) = hP := p0c (by decide) (by rw [one]; grind -lia -linarith) (by rw [one]; grind -lia -linarith)
   have hs := r0c (X2 := kc hX) (Y2 := kc hY) (Z2 := kc 1) hon' (by rw [hnP]; exact c0Q) (t0X _ hz') (by decide) (kc (hY * Z')) (kc (hX * Z')) (kc Y') (kc X') (kc (hY * Z') - kc Y') (kc (hX * Z') - kc X') (kc Z') _ _ _ (a0E _ _) (a0E _ _) (by rw [one]; grind -lia -linarith) (by rw [one]; grind -lia -linarith) rfl rfl
    (by rw [← c0I]; exact t0X _ (by rw [Nat.mod_mod] at hu'; exact hu')) (by rw [one]; grind -lia -linarith) rfl rfl rfl
   rw [hnP] at hs
   generalize hd0 : (hY * Z' + (fP - Y' % fP)) % fP = d at h
   generalize hu0 : (hX * Z' + (fP - X' % fP)) % fP = u at h
   generalize huu : u * u % fP = uu at h
   generalize huuu : uu * u % fP = uuu at h
   generalize ht : (d * d * Z' + (fP - uuu % fP) + (fP - 2 * X' * uu % fP)) % fP = t at h
   have d1 : kc d = kc (hY * Z') - kc Y' := by rw [← hd0, l0R, c0I]
   have u1 : kc u = kc (hX * Z') - kc X' := by rw [← hu0, l0R, c0I]
   have uu1 : kc uu = kc u * kc u := by rw [← huu, l0R, a0E]
   have uuu1 : kc uuu = kc uu * kc u := by rw [← huuu, l0R, a0E]
   have t1 : kc t = kc d * kc d * kc Z' - kc uuu - 2 * kc X' * kc uu := by rw [← ht, l0R, c0I, c0I, a0E, a0E, a0E, a0E, k2]
   rw [← d1, ← u1, ← uu1, ← uuu1, ← t1] at hs
   refine k0c e k _ _ _ h ?_
   rw [hbit, ← hs, l0R, l0R, l0R, a0E, c0I, a0E, c0I, a0E, a0E, a0E]
  ·rw [if_neg hb] at h hbit
   rw [b0H] at hbit
   exact k0c e k _ _ _ h hbit.symm
theorem y0J : b0b qN hP = .O := by
 have one : kc 1 = 1 := by decide
 have hnP : nm (kc hX) (kc hY) (kc 1) = hP := p0c (by decide) (by rw [one]; grind -lia -linarith) (by rw [one]; grind -lia -linarith)
 have h := k0c (qN - 1) 255 hX hY 1 w0L (by rw [hnP, show (qN - 1) / 2 ^ 255 = 1 by decide]; rfl)
 have e : qN = (qN - 1) + 1 := by decide
 rw [e]
 show a0Y (b0b (qN - 1) hP) hP = .O
 rw [h, c0y]
 exact c0K
theorem e0d {a b c : Pt} (ha : onC a) (hb : onC b) (hc : onC c) (h : a0Y a b = a0Y a c) : b = c := by
 have h1 : a0Y (g0b a) (a0Y a b) = a0Y (g0b a) (a0Y a c) := by rw [h]
 rw [← a0V (c0h ha) ha hb, ← a0V (c0h ha) ha hc, c0y (g0b a) a, c0K] at h1
 exact h1
theorem i0b {a b : Pt} (ha : onC a) (hb : onC b) (h : a0Y a b = .O) : b = g0b a := e0d ha hb (c0h ha) (by rw [h, c0K])
theorem y0K {p : Pt} (hp : onC p) (h : a0Y p p = .O) : p = .O := by
 have e := i0b hp hp h
 cases p with
 | O => rfl
 | A x y =>
  exfalso
  have hy : y = -y := by
   have : Pt.A x y = Pt.A x (-y) := e
   injection this
  have h2 : (2 : K) * y = 0 := by grind -lia -linarith
  exact (a0z h2).elim i0N (s0f hp)
theorem f0N {a b c d : Pt} (ha : onC a) (hb : onC b) (hc : onC c) (hd : onC d) : a0Y (a0Y a b) (a0Y c d) = a0Y (a0Y a c) (a0Y b d) := by
 rw [a0V ha hb (c0g hc hd), ← a0V hb hc hd, c0y b c, a0V hc hb hd, ← a0V ha hc (c0g hb hd)]
def InH (p : Pt) : Prop := ∃ n, p = b0b n hP
theorem InH.on {p : Pt} (h : InH p) : onC p := by obtain ⟨n, rfl⟩ := h; exact b0a c0Q n
theorem InH.add {p q : Pt} (h : InH p) (k : InH q) : InH (a0Y p q) := by
 obtain ⟨m, rfl⟩ := h
 obtain ⟨n, rfl⟩ := k
 exact ⟨m + n, (b0P c0Q m n).symm⟩
theorem t0Y (n : Nat) : b0b (qN * n) hP = .O := by rw [e0F c0Q, y0J, l0u]
theorem InH.neg {p : Pt} (h : InH p) : InH (g0b p) := by
 obtain ⟨n, rfl⟩ := h
 refine ⟨(qN - 1) * n, (i0b (b0a c0Q n) (b0a c0Q _) ?_).symm⟩
 rw [← b0P c0Q, show n + (qN - 1) * n = qN * n by have h := Nat.add_mul 1 (qN - 1) n; rw [Nat.one_mul, show 1 + (qN - 1) = qN by decide] at h; exact h.symm, t0Y]
theorem InH.half {p : Pt} (hp : onC p) (h : InH (a0Y p p)) : InH p := by
 obtain ⟨n, hn⟩ := h
 have hm : onC (b0b (n * ((qN + 1) / 2)) hP) := b0a c0Q _
 have e : a0Y (b0b (n * ((qN + 1) / 2)) hP) (b0b (n * ((qN + 1) / 2)) hP) = b0b n hP := by
  rw [← b0P c0Q, ← Nat.mul_add, show (qN + 1) / 2 + (qN + 1) / 2 = qN + 1 by decide, Nat.mul_add, Nat.mul_one, b0P c0Q, Nat.mul_comm n, t0Y]
  rfl
 refine ⟨n * ((qN + 1) / 2), ?_⟩
 have h2 : a0Y (a0Y p (g0b (b0b (n * ((qN + 1) / 2)) hP))) (a0Y p (g0b (b0b (n * ((qN + 1) / 2)) hP))) = .O := by
  rw [f0N hp (c0h hm) hp (c0h hm), hn, ← e, f0N hm hm (c0h hm) (c0h hm), c0K]
  rfl
 have h3 := y0K (c0g hp (c0h hm)) h2
 have h4 : a0Y (g0b (b0b (n * ((qN + 1) / 2)) hP)) p = a0Y (g0b (b0b (n * ((qN + 1) / 2)) hP)) (b0b (n * ((qN + 1) / 2)) hP) := by
  rw [c0y, h3, c0y, c0K]
 exact e0d (c0h hm) hp hm h4
theorem t0Z {i j : Nat} (hi : i < qN) (hj : j < qN) (h : b0b i hP = b0b j hP) : i = j := by
 have key : ∀ i j : Nat, j < qN → i < j → b0b i hP = b0b j hP → False := by
  intro i j hj hij h
  have hd : b0b (j - i) hP = .O := by
   refine e0d (b0a c0Q i) (b0a c0Q _) trivial ?_
   rw [← b0P c0Q, show i + (j - i) = j by omega, ← h, b0H]
  have hq := z0B
  have hinv := FP.inv A0b (a := j - i) (by omega) (by omega)
  have e1 : b0b ((j - i) * ((j - i) ^ (pQ - 2) % pQ)) hP = .O := by rw [e0F c0Q, hd, l0u]
  generalize (j - i) * ((j - i) ^ (pQ - 2) % pQ) = m at *
  rw [← hq] at hinv
  have hm := Nat.div_add_mod m qN
  rw [hinv] at hm
  rw [← hm, b0P c0Q, t0Y] at e1
  have e2 : a0Y (.O) (b0b 1 hP) = hP := rfl
  rw [e2] at e1
  cases e1
 rcases Nat.lt_trichotomy i j with k | k | k
 ·exact (key i j hj k h).elim
 ·exact k
 ·exact (key j i hi k h.symm).elim
theorem pig (N B : Nat) (g : Nat → Nat) (hb : ∀ a, a < N → g a < B) (hi : ∀ a b, a < N → b < N → g a = g b → a = b) : N ≤ B := by
 have hnd : ((List.range N).map g).Nodup := by
  refine List.pairwise_map.2 ?_
  have h0 : (List.range N).Nodup := List.nodup_range
  refine List.Pairwise.imp_of_mem (fun {a b} ha hb' hne => ?_) h0
  exact fun e => hne (hi a b (List.mem_range.1 ha) (List.mem_range.1 hb') e)
 have hs : (List.range N).map g ⊆ List.range B := by
  intro x hx
  obtain ⟨a, ha, rfl⟩ := List.mem_map.1 hx
  exact List.mem_range.2 (hb a (List.mem_range.1 ha))
 have := List.Nodup.length_le_of_subset hnd hs
 simpa using this
def enc : Pt → Nat
 | .O => 0
 | .A x y => 1 + 2 * x.val + y.val % 2
theorem y0L (p : Pt) : enc p < 2 * fP + 1 := by
 cases p with
 | O => show 0 < 2 * fP + 1; omega
 | A x y => have := x.isLt; show 1 + 2 * x.val + y.val % 2 < 2 * fP + 1; omega
theorem w0M {p q : Pt} (hp : onC p) (hq : onC q) (h : enc p = enc q) : p = q := by
 cases p with
 | O => cases q with
  | O => rfl
  | A x y => have h' : 0 = 1 + 2 * x.val + y.val % 2 := h; omega
 | A x y => cases q with
  | O => have h' : 1 + 2 * x.val + y.val % 2 = 0 := h; omega
  | A x' y' =>
   have h' : 1 + 2 * x.val + y.val % 2 = 1 + 2 * x'.val + y'.val % 2 := h
   have hx : x = x' := Fin.ext (by omega)
   have hy : y.val % 2 = y'.val % 2 := by omega
   subst hx
   have hp' : y * y = x * x * x + 7 := hp
   have hq' : y' * y' = x * x * x + 7 := hq
   rcases r0g (hp'.trans hq'.symm) with e | e
   ·rw [e]
   ·exfalso
    rw [e, h0V y' (s0f hq')] at hy
    omega
theorem w0N : ¬ 3 * qN ≤ 2 * fP + 1 := by decide
theorem z0C {p : Pt} (hp : onC p) : InH p := by
 refine Classical.byContradiction fun hn => ?_
 have hnp := c0h hp
 let c : Nat → Pt := fun k => if k = 0 then .O else if k = 1 then p else g0b p
 have hc : ∀ k, onC (c k) := fun k => by
  show onC (if k = 0 then .O else if k = 1 then p else g0b p)
  split
  ·trivial
  ·split
   ·exact hp
   ·exact hnp
 have hsub : ∀ a b : Pt, onC a → onC b → ∀ i j, a0Y a (b0b i hP) = a0Y b (b0b j hP) → InH (a0Y a (g0b b)) := by
  intro a b ha hb i j h
  have hI := b0a c0Q i
  have hJ := b0a c0Q j
  obtain ⟨m, hm⟩ := InH.add (p := b0b j hP) (q := g0b (b0b i hP)) ⟨j, rfl⟩ (InH.neg ⟨i, rfl⟩)
  refine ⟨m, ?_⟩
  rw [← hm]
  have e1 : a0Y (a0Y a (b0b i hP)) (a0Y (g0b b) (g0b (b0b i hP))) = a0Y (a0Y b (b0b j hP)) (a0Y (g0b b) (g0b (b0b i hP))) := by rw [h]
  rw [f0N ha hI (c0h hb) (c0h hI), f0N hb hJ (c0h hb) (c0h hI), c0K, c0K, b0H] at e1
  exact e1
 have hdiff : ∀ k l, k < 3 → l < 3 → InH (a0Y (c k) (g0b (c l))) → k = l := by
  have h0 : c 0 = .O := rfl
  have h1 : c 1 = p := rfl
  have h2 : c 2 = g0b p := rfl
  have nn : g0b (g0b p) = p := (i0b hnp hp (by rw [c0y, c0K])).symm
  have hneg : InH (g0b p) → InH p := fun h => by have := h.neg; rwa [nn] at this
  intro k l hk hl h
  have hk3 : k = 0 ∨ k = 1 ∨ k = 2 := by omega
  have hl3 : l = 0 ∨ l = 1 ∨ l = 2 := by omega
  rcases hk3 with rfl | rfl | rfl <;> rcases hl3 with rfl | rfl | rfl <;> try rfl
  ·rw [h0, h1] at h; exact (hn (hneg h)).elim
  ·rw [h0, h2, nn] at h; exact (hn h).elim
  ·rw [h0, h1] at h; exact (hn (by have h' : InH (a0Y p .O) := h; rwa [b0H] at h')).elim
  ·rw [h1, h2, nn] at h; exact (hn (InH.half hp h)).elim
  ·rw [h0, h2] at h; exact (hn (hneg (by have h' : InH (a0Y (g0b p) .O) := h; rwa [b0H] at h'))).elim
  ·rw [h1, h2] at h; exact (hn (hneg (InH.half hnp h))).elim
 have hq : 0 < qN := by decide
 have h3 := w0N
 generalize hqn : qN = q at hq h3
 refine h3 (pig (3 * q) (2 * fP + 1) (fun m => enc (a0Y (c (m / q)) (b0b (m % q) hP))) (fun a _ => y0L _) ?_)
 intro a b ha hb h
 have ha3 : a / q < 3 := Nat.div_lt_of_lt_mul (by rw [Nat.mul_comm]; exact ha)
 have hb3 : b / q < 3 := Nat.div_lt_of_lt_mul (by rw [Nat.mul_comm]; exact hb)
 have e := w0M (c0g (hc _) (b0a c0Q _)) (c0g (hc _) (b0a c0Q _)) h
 have ek := hdiff _ _ ha3 hb3 (hsub _ _ (hc _) (hc _) _ _ e)
 rw [ek] at e
 have e2 := e0d (hc _) (b0a c0Q _) (b0a c0Q _) e
 have hma := Nat.mod_lt a hq
 have hmb := Nat.mod_lt b hq
 rw [← hqn] at hma hmb e2
 have e3 := t0Z hma hmb e2
 rw [hqn] at e3
 rw [← Nat.div_add_mod a q, ← Nat.div_add_mod b q, ek, e3]
theorem y0M {p : Pt} (hp : onC p) : b0b qN p = .O := by
 obtain ⟨n, rfl⟩ := z0C hp
 rw [← e0F c0Q, Nat.mul_comm, t0Y]
theorem u0a {p : Pt} (hp : onC p) (n : Nat) : b0b (n % qN) p = b0b n p := by
 have h := Nat.div_add_mod n qN
 conv => rhs; rw [← h, b0P hp, e0F hp, y0M hp, l0u]
 rfl
end Mvq
namespace Mvq
end Mvq
namespace Go.Proofs.YtemcankmggmgoaaGreat
open Go.RowKit Go.Mv Mvp Mvq
def w0O (st label : List UInt8) : Nat := beN (a0O (c0A q0h [st, label]) 31 64) % mQ.M
def k0d (st : List UInt8) : Nat := w0O st h0C
def chN (label : List UInt8) (parts : List (List UInt8)) : Nat := beN (a0O (c0A label parts) 31 64) % mQ.M
theorem w0P (st label : List UInt8) : w0O st label < mQ.M := Nat.mod_lt _ (by decide)
theorem v0e (label : List UInt8) (parts : List (List UInt8)) : chN label parts < mQ.M := Nat.mod_lt _ (by decide)
def g0x (pub first text : List UInt8) : Nat := k0d (f0U (z0O x0H) [(s0Q, pub), (v0V, first), (x0I, text)])
def k0e (l : List UInt8) : Bool := b0o mQ l && !decide (beN l = 0)
noncomputable def sgF (key text : List UInt8) : List UInt8 := b0Z (b0b (chN a0U [key, text]) gP)
noncomputable def sgZ (key text : List UInt8) : Nat := (chN a0U [key, text] + g0x (b0Z (b0b (beN key) gP)) (sgF key text) text * beN key) % mQ.M
noncomputable def sgE (key : List UInt8) : Int := if k0e key = true then 0 else 3
noncomputable def sgS (key text : List UInt8) : List UInt8 := if k0e key = true then sgF key text ++ b0i (sgZ key text) else []
end Go.Proofs.YtemcankmggmgoaaGreat
namespace Mvt
variable {α : Type} (nd : α → α → α)
def half (n : Nat) : Nat := 2 ^ Nat.log2 (n - 1)
def skip (a e : Nat) : Nat × Nat := if a % 2 = 0 ∧ 0 < a then skip (a / 2) (e / 2) else (a, e)
termination_by a
decreasing_by omega
end Mvt
namespace Go.Proofs.YtemcankmggmgoaaGreat
open Go.RowKit Go.Mv Mvp Mvt
attribute [local irreducible] b0w b0L toB a0x a0K b0x c0q a0O c0r b0t a0I c0A
end Go.Proofs.YtemcankmggmgoaaGreat
namespace Mvp
end Mvp
namespace Go.Mv
open Mvp
end Go.Mv
namespace Go.Proofs.YtemcankmggmgoaaGreat
section
open Go.RowKit Go.Mv Mvp Mvt
attribute [local irreducible] b0w b0L toB a0x a0K b0x c0q a0O c0r b0t a0I c0A
end
section
open Go.RowKit Go.Mv Mvp Mvt
attribute [local irreducible] b0w b0L toB a0x a0K b0x c0q a0O c0r b0t a0I c0A
end
end Go.Proofs.YtemcankmggmgoaaGreat
namespace Mvp
end Mvp
namespace Go.Proofs.YtemcankmggmgoaaGreat
section
open Go.RowKit Go.Mv Mvp
attribute [local irreducible] b0w b0L toB a0x a0K b0x c0q a0O c0r b0t a0I c0A
theorem r0G (b : Option Addr) (n c : Nat) (l : List UInt8) (m : Nat) (w : World) (hn : n ≤ 1000000) (hnc : n ≤ c) (hm : m ≤ 16384) (hb : RdB w b n l) (ho : Old w b) :
  Calls Tryz.prog 114 #[.slice b n c, .int .i64 (m : Int)] w fun r w' => ∃ v, r = .returned (.tuple #[v, .int .i64 0]) ∧ Own w' w.heap.size 5 1 v m (bs (a0O l 31 m)) ∧ Fr Nob w w' := by
 refine (o0C b n c l m w hn hnc hb ho).mono ?_
 rintro r w' (⟨_, _, v, h1, h2, h3⟩ | ⟨h, _⟩)
 ·exact ⟨v, h1, by simpa using h2, h3⟩
 ·omega
end
section
open Go.RowKit Go.Mv Mvp
attribute [local irreducible] a0F lw mix cw b0n b0v b0k a0M a0q beN b0C b0i b0z a0J a0R elN mdL b0o
end
section
open Go.RowKit Go.Mv Mvp
attribute [local irreducible] a0F lw mix cw b0n b0v b0k a0M a0q beN b0C b0i b0z a0J a0R elN mdL c0D
end
end Go.Proofs.YtemcankmggmgoaaGreat
