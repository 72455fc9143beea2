/- ; ; ; ; ; ; ; ; ; ; ; ; ; ; ; ; ; ; ; ; ; ; ; ; ; ; . -/
import Derived.Test.YtpfimiajoifjaaaGreatMgSpanHalvesProof5
import Derived.Test.YtpfimiajoifjaaaGreatMgSpanHalvesProof2
import Derived.Test.YtpfimiajoifjaaaGreatMgSpanHalvesProof1
import Derived.Test.YtpfimiajoifjaaaGreatMgSpanHalvesProof3
import Derived.IntWalk
import Derived.Test.YtpfimiajoifjaaaGreatMgSpanHalvesProof4
import Derived.Deep.DeepCutAuto
set_option maxHeartbeats 16000000
set_option maxRecDepth 1000000

namespace Go.Proofs.YtpfimiajoifjaaaGreat
open Go.RowKit Go.Mv Mvp Mvq
theorem n0v (n : Nat) : List.replicate n (Value.int .u8 0) = bs (List.replicate n 0) := by simp [bs]
theorem r0h : splice (bs (List.replicate 33 0)) 1 (List.replicate 32 (Value.int .u8 0)) = bs (List.replicate 33 0) := by rfl
def bb1 (b : Nat) : List Value := bs ([UInt8.ofNat b] ++ List.replicate 32 0)
def bb2 (b X : Nat) : List Value := bs (UInt8.ofNat b :: b0b X)
theorem w0E (b : Nat) : (bb1 b).length = 33 := by unfold bb1; rw [a0C]; simp
theorem r0i (b X : Nat) : (bb2 b X).length = 33 := by unfold bb2; rw [a0C, List.length_cons, b0H]
theorem k0U (b X : Nat) : splice (bb1 b) 1 (bs (b0b X)) = bb2 b X := by
 unfold bb1 bb2
 rw [e0g, i0I _ _ _ 1 (by simp [bs]) (by rw [a0C, a0C, b0H]; rfl), ← e0g]; rfl
theorem r0j (b : Nat) (hb : b < 256) : (bs (List.replicate 33 0)).set 0 (.int .u8 (b : Int)) = bb1 b := by
 unfold bb1
 have h := j0X (List.replicate 33 0) 0 (UInt8.ofNat b)
 rw [show ((UInt8.ofNat b).toNat : Int) = (b : Int) by rw [UInt8.toNat_ofNat']; omega] at h
 rw [h]; rfl
theorem y0L (b : Nat) (h : b = 0 ∨ b = 1) : bits .or .u8 2 (b : Int) = ((2 + b : Nat) : Int) := by
 rcases h with rfl | rfl <;> decide
attribute [local irreducible] a0v lw mix cw b0e b0f b0a beN b0l b0b a0z a0F elN mdL b0m rtN rtV b0J gXn gYn bb1 bb2
theorem o0O (m : Md) (gc gp bx by_ : Nat) (w : World) (hok : m.Ok) (hcv : Has w gc (d0v m gp bx by_) 184) (hpm : Has w gp (mdL m) 234) (x y z : Nat) (hb : (z % m.M == 0) = true) :
  Calls Tryz.prog 109 #[.pointer (some ⟨gc, 0, none⟩), ptV m x y z] w fun e w' => ∃ sv, e = .returned sv ∧ Own w' w.heap.size 5 1 sv 33 (bs (List.replicate 33 0)) ∧ Fr Nob w w' := by
 have HOK := qH hok
 have HCV := qH hcv
 have HPM := qH hpm
 clear hok hcv hpm
 have HB := qH hb
 clear hb
 unfold ptV ptL
 have st0 := St.start Nob w
 go_enter Tryz.func109, Tryz.ntmps109
 go_wp2_with (with_reducible refine wSk 3 ?_)
 refine a0r st0 rfl rfl rfl (cw 4 (elN m x) ++ (cw 4 (elN m y) ++ cw 4 (elN m z))) rfl ?_
 intro g3 w1 st1
 clear st0
 go_wp2_with (with_reducible refine wSk 9 ?_)
 refine g0W rfl rfl Tryz.underlying23 d0g rfl rfl rfl 1 33 ap4 ap4 ap1 ap1 ap9 ?_
 intro w2 hg2 hf2 hz2
 clear hz2
 have st2 := st1.new hf2 hg2 (Nat.le_refl _)
 have hb2 := st1.fr.size
 skip
 clear st1 hg2 hf2
 generalize w1.heap.size = gb at *
 have HBB := qH hb2
 clear hb2
 rw [n0v] at st2
 go_wp2_with (with_reducible refine wSk 10 ?_)
 refine a0s st2 0 rfl rfl rfl Tryz.underlying174 rfl rfl ap3 ?_
 go_wp2_with fail
 refine (c0Z m HOK.out x y z true HB.out _).mono ?_
 rintro e' w3 ⟨rfl, hf3⟩
 have st3 := st2.keep hf3
 clear st2 hf3
 go_wp2_with (with_reducible refine wSk 13 ?_)
 refine h0C st3 1 rfl rfl rfl Tryz.underlying23 Tryz.underlying3 d0g rfl rfl (n := 1) (m := 32) (cap := 33) rfl rfl ap2 ap2 ap2 (by rw [a0C, List.length_replicate]; decide) (bs (List.replicate 33 0)) r0h ?_
 intro w4 st4
 clear st3
 have hown : Own w4 w.heap.size 5 1 (.slice (some ⟨gb, 0, none⟩) 33 33) 33 (bs (List.replicate 33 0)) := by
  have h := st4.at 1 rfl
  exact Own.made h w.heap.size HBB.out 1 33 33 (Nat.le_refl _) ap9 ap2
 have hfr := st4.fr
 clear st4
 go_wp2_with fail
 go_ret
 exact ⟨_, rfl, hown, hfr⟩
theorem u0R (m : Md) (gp : Nat) (w : World) (hok : m.Ok) (hpm : Has w gp (mdL m) 234) (x r : Nat) (hr : x ^ (m.M - 2) = r) :
  Calls Tryz.prog 179 #[.pointer (some ⟨gp, 0, none⟩), i4 (elN m x)] w fun e w' => e = .returned (i4 (elN m r)) ∧ Fr Nob w w' := by
 subst hr; exact n0m m gp w hok hpm x
theorem h0D (m : Md) (gp : Nat) (w : World) (hok : m.Ok) (hpm : Has w gp (mdL m) 234) (x r : Nat) (hr : x % m.M = r) :
  Calls Tryz.prog 190 #[.pointer (some ⟨gp, 0, none⟩), i4 (elN m x)] w fun e w' => e = .returned (i4 r) ∧ Fr Nob w w' := by
 subst hr; exact e0o m gp w hok hpm x
theorem w0F (m : Md) (gc gp bx by_ : Nat) (w : World) (hok : m.Ok) (hcv : Has w gc (d0v m gp bx by_) 184) (hpm : Has w gp (mdL m) 234) (x y z : Nat) (hb : (z % m.M == 0) = false) (i ii i3 yy v xx u : Nat) (ei : z ^ (m.M - 2) = i) (eii : i * i = ii) (ei3 : ii * i = i3) (eyy : y * i3 = yy) (ev : yy % m.M = v) (exx : x * ii = xx) (eu : xx % m.M = u) :
  Calls Tryz.prog 109 #[.pointer (some ⟨gc, 0, none⟩), ptV m x y z] w fun e w' => ∃ sv, e = .returned sv ∧ Own w' w.heap.size 5 1 sv 33 (bs (UInt8.ofNat (2 + v % 2) :: b0b u)) ∧ Fr Nob w w' := by
 have HOK := qH hok
 have HCV := qH hcv
 have HPM := qH hpm
 clear hok hcv hpm
 have HB := qH hb
 have Hi := qH ei
 have Hii := qH eii
 have Hi3 := qH ei3
 have Hyy := qH eyy
 have Hv := qH ev
 have Hxx := qH exx
 have Hu := qH eu
 clear hb ei eii ei3 eyy ev exx eu
 unfold ptV ptL
 have st0 := St.start Nob w
 go_enter Tryz.func109, Tryz.ntmps109
 go_wp2_with (with_reducible refine wSk 3 ?_)
 refine a0r st0 rfl rfl rfl (cw 4 (elN m x) ++ (cw 4 (elN m y) ++ cw 4 (elN m z))) rfl ?_
 intro g3 w1 st1
 clear st0
 go_wp2_with (with_reducible refine wSk 9 ?_)
 refine g0W rfl rfl Tryz.underlying23 d0g rfl rfl rfl 1 33 ap4 ap4 ap1 ap1 ap9 ?_
 intro w2 hg2 hf2 hz2
 clear hz2
 have st2 := st1.new hf2 hg2 (Nat.le_refl _)
 have hb2 := st1.fr.size
 skip
 clear st1 hg2 hf2
 generalize w1.heap.size = gb at *
 have HBB := qH hb2
 clear hb2
 rw [n0v] at st2
 go_wp2_with (with_reducible refine wSk 10 ?_)
 refine a0s st2 0 rfl rfl rfl Tryz.underlying174 rfl rfl ap3 ?_
 go_wp2_with fail
 refine (c0Z m HOK.out x y z false HB.out _).mono ?_
 rintro e' w3 ⟨rfl, hf3⟩
 have st3 := st2.keep hf3
 clear st2 hf3
 go_wp2_with fail
 refine wp_region_noPanic ?_
 refine a0d (fun wx => St Nob w wx [(g3, cw 4 (elN m x) ++ (cw 4 (elN m y) ++ cw 4 (elN m z)), 174), (gb, bs (List.replicate 33 0), 5)]) 8 (.w 0 (.w 1 (.w 2 (.t 3 (.w 4 (.t 5 (.b 6 7 (.r 7 (.m 8 .nil)) (.r 6 (.m 8 .nil))))))))) ap0 ap0 st3.drew (fun _ _ _ _ _ h => h) ?_
 have hd3 := st3.drew
 clear st3
 refine a0a rfl rfl apW ?_
 try simp only [clL]
 refine a0a rfl rfl apW ?_
 try simp only [clL]
 refine a0a rfl rfl apW ?_
 try simp only [clL]
 refine a0L (v := ?_) rfl rfl (fun wx hS => ?_) ?_
 rotate_left 1
 ·(have hc := (HCV.out.keep (St.fr hS) id).cell (i := 0) rfl; clear hS; go_simp; with_reducible rfl)
 try simp only [clL]
 refine a0a rfl rfl apW ?_
 try simp only [clL]
 refine a0h rfl rfl rfl rfl (cw 4 (elN m z)) (fun wx hS => St.rangeL hS 0 rfl 8 _ (s0k _ _ _)) Tryz.underlying123 rfl ap3 ?_
 try simp only [clL]
 refine e0i (C := fun g6 wz => St Nob w wz [(g3, cw 4 (elN m x) ++ (cw 4 (elN m y) ++ cw 4 (elN m z)), 174), (gb, bs (List.replicate 33 0), 5), (g6, cw 4 (elN m i), 123)]) (F := ?_) (fun key => ?_) ?_
 rotate_left 1
 ·skip
  refine c0C rfl rfl rfl rfl ?_ ?_
  ·skip
   go_simp
   refine (u0R m gp _ HOK.out (HPM.out.keep hd3.fr id) z i Hi.out).mono ?_
   rintro e' w4 ⟨rfl, hf4⟩
   have st4 := hd3.keep hf4
   clear hf4
   refine ⟨st4, ?_⟩
   try simp only [clL]
   refine a0q rfl rfl ?_
   refine a0X st4 rfl (z := zAd) ap0 (cw 4 0) ap5 ?_
   intro g6 w5 st5
   refine ⟨St.less st5 ap4, ?_⟩
   try simp only [clL]
   refine a0o rfl rfl ?_
   refine a0i st5 2 rfl rfl rfl rfl ap6 ap3 (a0f _ _) ?_
   intro w6 st6
   try simp only [Act.put]
   refine a0e ?_
   exact key g6 _ st6
  ·skip
   refine a0X hd3 rfl (z := zAd) ap0 (cw 4 0) ap5 ?_
   intro g6 w7 st7
   refine ⟨St.less st7 ap4, ?_⟩
   try simp only [clL]
   refine a0q rfl rfl ?_
   go_simp
   refine (u0R m gp _ HOK.out (HPM.out.keep st7.fr id) z i Hi.out).mono ?_
   rintro e' w8 ⟨rfl, hf8⟩
   have st8 := st7.keep hf8
   clear hf8
   refine ⟨St.less st8 ap4, ?_⟩
   try simp only [clL]
   refine a0o rfl rfl ?_
   refine a0i st8 2 rfl rfl rfl rfl ap6 ap3 (a0f _ _) ?_
   intro w9 st9
   try simp only [Act.put]
   refine a0e ?_
   exact key g6 _ st9
 intro g6 w10 st10
 have st10 : St Nob w w10 [(g3, cw 4 (elN m x) ++ (cw 4 (elN m y) ++ cw 4 (elN m z)), 174), (gb, bs (List.replicate 33 0), 5), (g6, cw 4 (elN m i), 123)] := st10
 clear hd3
 refine NoPanic.normal ?_
 go_wp2_with fail
 refine wp_region_noPanic ?_
 refine a0d (fun wx => St Nob w wx [(g3, cw 4 (elN m x) ++ (cw 4 (elN m y) ++ cw 4 (elN m z)), 174), (gb, bs (List.replicate 33 0), 5), (g6, cw 4 (elN m i), 123)]) 7 (.w 0 (.w 1 (.w 2 (.t 3 (.t 4 (.b 5 6 (.r 6 (.m 7 .nil)) (.r 5 (.m 7 .nil)))))))) ap0 ap0 st10.drew (fun _ _ _ _ _ h => h) ?_
 have hd10 := st10.drew
 clear st10
 refine a0a rfl rfl apW ?_
 try simp only [clL]
 refine a0a rfl rfl apW ?_
 try simp only [clL]
 refine a0a rfl rfl apW ?_
 try simp only [clL]
 refine a0L (v := ?_) rfl rfl (fun wx hS => ?_) ?_
 rotate_left 1
 ·(have hc := (HCV.out.keep (St.fr hS) id).cell (i := 0) rfl; clear hS; go_simp; with_reducible rfl)
 try simp only [clL]
 refine a0h rfl rfl rfl rfl (cw 4 (elN m i)) (fun wx hS => St.rangeL hS 2 rfl 0 _ dZl) Tryz.underlying123 rfl ap3 ?_
 try simp only [clL]
 refine e0i (C := fun g7 wz => St Nob w wz [(g3, cw 4 (elN m x) ++ (cw 4 (elN m y) ++ cw 4 (elN m z)), 174), (gb, bs (List.replicate 33 0), 5), (g6, cw 4 (elN m i), 123), (g7, cw 4 (elN m ii), 123)]) (F := ?_) (fun key => ?_) ?_
 rotate_left 1
 ·skip
  refine c0C rfl rfl rfl rfl ?_ ?_
  ·skip
   go_simp
   refine (b0C m gp _ HOK.out (HPM.out.keep hd10.fr id) i ii Hii.out).mono ?_
   rintro e' w11 ⟨rfl, hf11⟩
   have st11 := hd10.keep hf11
   clear hf11
   refine ⟨st11, ?_⟩
   try simp only [clL]
   refine a0q rfl rfl ?_
   refine a0X st11 rfl (z := zAd) ap0 (cw 4 0) ap5 ?_
   intro g7 w12 st12
   refine ⟨St.less st12 ap4, ?_⟩
   try simp only [clL]
   refine a0o rfl rfl ?_
   refine a0i st12 3 rfl rfl rfl rfl ap6 ap3 (a0f _ _) ?_
   intro w13 st13
   try simp only [Act.put]
   refine a0e ?_
   exact key g7 _ st13
  ·skip
   refine a0X hd10 rfl (z := zAd) ap0 (cw 4 0) ap5 ?_
   intro g7 w14 st14
   refine ⟨St.less st14 ap4, ?_⟩
   try simp only [clL]
   refine a0q rfl rfl ?_
   go_simp
   refine (b0C m gp _ HOK.out (HPM.out.keep st14.fr id) i ii Hii.out).mono ?_
   rintro e' w15 ⟨rfl, hf15⟩
   have st15 := st14.keep hf15
   clear hf15
   refine ⟨St.less st15 ap4, ?_⟩
   try simp only [clL]
   refine a0o rfl rfl ?_
   refine a0i st15 3 rfl rfl rfl rfl ap6 ap3 (a0f _ _) ?_
   intro w16 st16
   try simp only [Act.put]
   refine a0e ?_
   exact key g7 _ st16
 intro g7 w17 st17
 have st17 : St Nob w w17 [(g3, cw 4 (elN m x) ++ (cw 4 (elN m y) ++ cw 4 (elN m z)), 174), (gb, bs (List.replicate 33 0), 5), (g6, cw 4 (elN m i), 123), (g7, cw 4 (elN m ii), 123)] := st17
 clear hd10
 refine NoPanic.normal ?_
 go_wp2_with fail
 refine wp_region_noPanic ?_
 refine a0d (fun wx => St Nob w wx [(g3, cw 4 (elN m x) ++ (cw 4 (elN m y) ++ cw 4 (elN m z)), 174), (gb, bs (List.replicate 33 0), 5), (g6, cw 4 (elN m i), 123), (g7, cw 4 (elN m ii), 123)]) 20 (.w 0 (.w 1 (.w 2 (.t 3 (.w 4 (.w 5 (.w 6 (.t 7 (.w 8 (.t 9 (.w 10 (.w 11 (.w 12 (.t 13 (.t 14 (.t 15 (.b 16 19 (.b 17 19 (.b 18 19 (.r 19 (.m 20 .nil)) (.r 18 (.m 20 .nil))) (.r 17 (.r 18 (.m 20 .nil)))) (.r 16 (.r 17 (.r 18 (.m 20 .nil))))))))))))))))))))) ap0 ap0 st17.drew (fun _ _ _ _ _ h => h) ?_
 have hd17 := st17.drew
 clear st17
 refine a0a rfl rfl apW ?_
 try simp only [clL]
 refine a0a rfl rfl apW ?_
 try simp only [clL]
 refine a0a rfl rfl apW ?_
 try simp only [clL]
 refine a0L (v := ?_) rfl rfl (fun wx hS => ?_) ?_
 rotate_left 1
 ·(have hc := (HCV.out.keep (St.fr hS) id).cell (i := 0) rfl; clear hS; go_simp; with_reducible rfl)
 try simp only [clL]
 refine a0a rfl rfl apW ?_
 try simp only [clL]
 refine a0a rfl rfl apW ?_
 try simp only [clL]
 refine a0a rfl rfl apW ?_
 try simp only [clL]
 refine a0L (v := ?_) rfl rfl (fun wx hS => ?_) ?_
 rotate_left 1
 ·(have hc := (HCV.out.keep (St.fr hS) id).cell (i := 0) rfl; clear hS; go_simp; with_reducible rfl)
 try simp only [clL]
 refine a0a rfl rfl apW ?_
 try simp only [clL]
 refine a0h rfl rfl rfl rfl (cw 4 (elN m y)) (fun wx hS => St.rangeL hS 0 rfl 4 _ (x0I _ _ _)) Tryz.underlying123 rfl ap3 ?_
 try simp only [clL]
 refine a0a rfl rfl apW ?_
 try simp only [clL]
 refine a0a rfl rfl apW ?_
 try simp only [clL]
 refine a0a rfl rfl apW ?_
 try simp only [clL]
 refine a0L (v := ?_) rfl rfl (fun wx hS => ?_) ?_
 rotate_left 1
 ·(have hc := (HCV.out.keep (St.fr hS) id).cell (i := 0) rfl; clear hS; go_simp; with_reducible rfl)
 try simp only [clL]
 refine a0h rfl rfl rfl rfl (cw 4 (elN m ii)) (fun wx hS => St.rangeL hS 3 rfl 0 _ dZl) Tryz.underlying123 rfl ap3 ?_
 try simp only [clL]
 refine a0h rfl rfl rfl rfl (cw 4 (elN m i)) (fun wx hS => St.rangeL hS 2 rfl 0 _ dZl) Tryz.underlying123 rfl ap3 ?_
 try simp only [clL]
 refine e0i (C := fun g8 wz => St Nob w wz [(g3, cw 4 (elN m x) ++ (cw 4 (elN m y) ++ cw 4 (elN m z)), 174), (gb, bs (List.replicate 33 0), 5), (g6, cw 4 (elN m i), 123), (g7, cw 4 (elN m ii), 123), (g8, cw 4 v, 167)]) (F := ?_) (fun key => ?_) ?_
 rotate_left 1
 ·skip
  refine c0C rfl rfl rfl rfl ?_ ?_
  ·skip
   go_simp
   refine (b0Y m gp _ HOK.out (HPM.out.keep hd17.fr id) ii i i3 Hi3.out).mono ?_
   rintro e' w18 ⟨rfl, hf18⟩
   have st18 := hd17.keep hf18
   clear hf18
   refine ⟨st18, ?_⟩
   try simp only [clL]
   refine c0C rfl rfl rfl rfl ?_ ?_
   ·skip
    go_simp
    refine (b0Y m gp _ HOK.out (HPM.out.keep st18.fr id) y i3 yy Hyy.out).mono ?_
    rintro e' w19 ⟨rfl, hf19⟩
    have st19 := st18.keep hf19
    clear hf19
    refine ⟨st19, ?_⟩
    try simp only [clL]
    refine c0C rfl rfl rfl rfl ?_ ?_
    ·skip
     go_simp
     refine (h0D m gp _ HOK.out (HPM.out.keep st19.fr id) yy v Hv.out).mono ?_
     rintro e' w20 ⟨rfl, hf20⟩
     have st20 := st19.keep hf20
     clear hf20
     refine ⟨st20, ?_⟩
     try simp only [clL]
     refine a0q rfl rfl ?_
     refine a0X st20 rfl (z := zAd) ap0 (cw 4 0) ap5 ?_
     intro g8 w21 st21
     refine ⟨St.less st21 ap4, ?_⟩
     try simp only [clL]
     refine a0o rfl rfl ?_
     refine a0i st21 4 rfl rfl rfl rfl ap6 ap3 (a0f _ _) ?_
     intro w22 st22
     try simp only [Act.put]
     refine a0e ?_
     exact key g8 _ st22
    ·skip
     refine a0X st19 rfl (z := zAd) ap0 (cw 4 0) ap5 ?_
     intro g8 w23 st23
     refine ⟨St.less st23 ap4, ?_⟩
     try simp only [clL]
     refine a0q rfl rfl ?_
     go_simp
     refine (h0D m gp _ HOK.out (HPM.out.keep st23.fr id) yy v Hv.out).mono ?_
     rintro e' w24 ⟨rfl, hf24⟩
     have st24 := st23.keep hf24
     clear hf24
     refine ⟨St.less st24 ap4, ?_⟩
     try simp only [clL]
     refine a0o rfl rfl ?_
     refine a0i st24 4 rfl rfl rfl rfl ap6 ap3 (a0f _ _) ?_
     intro w25 st25
     try simp only [Act.put]
     refine a0e ?_
     exact key g8 _ st25
   ·skip
    refine a0X st18 rfl (z := zAd) ap0 (cw 4 0) ap5 ?_
    intro g8 w26 st26
    refine ⟨St.less st26 ap4, ?_⟩
    try simp only [clL]
    refine a0q rfl rfl ?_
    go_simp
    refine (b0Y m gp _ HOK.out (HPM.out.keep st26.fr id) y i3 yy Hyy.out).mono ?_
    rintro e' w27 ⟨rfl, hf27⟩
    have st27 := st26.keep hf27
    clear hf27
    refine ⟨St.less st27 ap4, ?_⟩
    try simp only [clL]
    refine a0q rfl rfl ?_
    go_simp
    refine (h0D m gp _ HOK.out (HPM.out.keep st27.fr id) yy v Hv.out).mono ?_
    rintro e' w28 ⟨rfl, hf28⟩
    have st28 := st27.keep hf28
    clear hf28
    refine ⟨St.less st28 ap4, ?_⟩
    try simp only [clL]
    refine a0o rfl rfl ?_
    refine a0i st28 4 rfl rfl rfl rfl ap6 ap3 (a0f _ _) ?_
    intro w29 st29
    try simp only [Act.put]
    refine a0e ?_
    exact key g8 _ st29
  ·skip
   refine a0X hd17 rfl (z := zAd) ap0 (cw 4 0) ap5 ?_
   intro g8 w30 st30
   refine ⟨St.less st30 ap4, ?_⟩
   try simp only [clL]
   refine a0q rfl rfl ?_
   go_simp
   refine (b0Y m gp _ HOK.out (HPM.out.keep st30.fr id) ii i i3 Hi3.out).mono ?_
   rintro e' w31 ⟨rfl, hf31⟩
   have st31 := st30.keep hf31
   clear hf31
   refine ⟨St.less st31 ap4, ?_⟩
   try simp only [clL]
   refine a0q rfl rfl ?_
   go_simp
   refine (b0Y m gp _ HOK.out (HPM.out.keep st31.fr id) y i3 yy Hyy.out).mono ?_
   rintro e' w32 ⟨rfl, hf32⟩
   have st32 := st31.keep hf32
   clear hf32
   refine ⟨St.less st32 ap4, ?_⟩
   try simp only [clL]
   refine a0q rfl rfl ?_
   go_simp
   refine (h0D m gp _ HOK.out (HPM.out.keep st32.fr id) yy v Hv.out).mono ?_
   rintro e' w33 ⟨rfl, hf33⟩
   have st33 := st32.keep hf33
   clear hf33
   refine ⟨St.less st33 ap4, ?_⟩
   try simp only [clL]
   refine a0o rfl rfl ?_
   refine a0i st33 4 rfl rfl rfl rfl ap6 ap3 (a0f _ _) ?_
   intro w34 st34
   try simp only [Act.put]
   refine a0e ?_
   exact key g8 _ st34
 intro g8 w35 st35
 have st35 : St Nob w w35 [(g3, cw 4 (elN m x) ++ (cw 4 (elN m y) ++ cw 4 (elN m z)), 174), (gb, bs (List.replicate 33 0), 5), (g6, cw 4 (elN m i), 123), (g7, cw 4 (elN m ii), 123), (g8, cw 4 v, 167)] := st35
 clear hd17
 refine NoPanic.normal ?_
 have c1 := (st35.at 4 rfl).cell (c0d 4 v 0 ap2)
 obtain ⟨v3, c3, f3⟩ := (st35.at 1 rfl).ready (i := 0) (by rw [a0C, List.length_replicate]; decide)
 have ha := m0h v
 have hb2 : v % 2 = 0 ∨ v % 2 = 1 := by omega
 generalize hbv : v % 2 = b at *
 have HBV := qH hbv
 clear hbv
 have ho := y0L b hb2
 have hw8 : IntKind.u8.wrap (b : Int) = (b : Int) := by rcases hb2 with rfl | rfl <;> decide
 have hst2 := st35.set 1 rfl 0 (.int .u8 ((2 + b : Nat) : Int))
 rw [r0j (2 + b) ap1] at hst2
 have hw16 : IntKind.u8.wrap ((2 + b : Nat) : Int) = ((2 + b : Nat) : Int) := by rcases hb2 with rfl | rfl <;> decide
 have HB2 := qH hb2
 clear hb2
 go_wp2_with fail
 have st36 : St Nob w _ [(g3, cw 4 (elN m x) ++ (cw 4 (elN m y) ++ cw 4 (elN m z)), 174), (gb, bb1 (2 + b), 5), (g6, cw 4 (elN m i), 123), (g7, cw 4 (elN m ii), 123), (g8, cw 4 v, 167)] := hst2
 clear st35 hst2 c1 c3 f3 ha ho hw8 hw16
 go_wp2_with fail
 refine wp_region_noPanic ?_
 refine a0d (fun wx => St Nob w wx [(g3, cw 4 (elN m x) ++ (cw 4 (elN m y) ++ cw 4 (elN m z)), 174), (gb, bb1 (2 + b), 5), (g6, cw 4 (elN m i), 123), (g7, cw 4 (elN m ii), 123), (g8, cw 4 v, 167)]) 15 (.w 0 (.w 1 (.w 2 (.w 3 (.t 4 (.w 5 (.w 6 (.w 7 (.t 8 (.w 9 (.t 10 (.t 11 (.r 12 (.r 13 (.r 14 (.m 15 (.w 16 .nil))))))))))))))))) ap0 ap0 st36.drew (fun _ _ _ _ _ h => h) ?_
 have hd36 := st36.drew
 clear st36
 refine a0a rfl rfl apW ?_
 try simp only [clL]
 refine a0a rfl rfl apW ?_
 try simp only [clL]
 refine a0a rfl rfl apW ?_
 try simp only [clL]
 refine a0a rfl rfl apW ?_
 try simp only [clL]
 refine a0L (v := ?_) rfl rfl (fun wx hS => ?_) ?_
 rotate_left 1
 ·(have hc := (HCV.out.keep (St.fr hS) id).cell (i := 0) rfl; clear hS; go_simp; with_reducible rfl)
 try simp only [clL]
 refine a0a rfl rfl apW ?_
 try simp only [clL]
 refine a0a rfl rfl apW ?_
 try simp only [clL]
 refine a0a rfl rfl apW ?_
 try simp only [clL]
 refine a0L (v := ?_) rfl rfl (fun wx hS => ?_) ?_
 rotate_left 1
 ·(have hc := (HCV.out.keep (St.fr hS) id).cell (i := 0) rfl; clear hS; go_simp; with_reducible rfl)
 try simp only [clL]
 refine a0a rfl rfl apW ?_
 try simp only [clL]
 refine a0h rfl rfl rfl rfl (cw 4 (elN m x)) (fun wx hS => St.rangeL hS 0 rfl 0 _ (x0H _ _ _)) Tryz.underlying123 rfl ap3 ?_
 try simp only [clL]
 refine a0h rfl rfl rfl rfl (cw 4 (elN m ii)) (fun wx hS => St.rangeL hS 3 rfl 0 _ dZl) Tryz.underlying123 rfl ap3 ?_
 try simp only [clL]
 refine a0q rfl rfl ?_
 go_simp
 refine (b0Y m gp _ HOK.out (HPM.out.keep hd36.fr id) x ii xx Hxx.out).mono ?_
 rintro e' w37 ⟨rfl, hf37⟩
 have st37 := hd36.keep hf37
 clear hf37
 clear hd36
 refine ⟨st37, ?_⟩
 try simp only [clL]
 refine a0q rfl rfl ?_
 go_simp
 refine (h0D m gp _ HOK.out (HPM.out.keep st37.fr id) xx u Hu.out).mono ?_
 rintro e' w38 ⟨rfl, hf38⟩
 have st38 := st37.keep hf38
 clear hf38
 clear st37
 refine ⟨st38, ?_⟩
 try simp only [clL]
 refine a0q rfl rfl ?_
 go_simp
 refine (i0y u _).mono ?_
 rintro e' w39 ⟨vb, rfl, hownb, hf39⟩
 have st39 := st38.keep hf39
 obtain ⟨va, vc, rfl, -, hrd, -⟩ := hownb.form
 clear hownb
 clear hf39
 clear st38
 refine ⟨st39, ?_⟩
 try simp only [clL]
 refine a0o rfl rfl ?_
 refine k0T st39 1 rfl rfl Tryz.underlying23 d0g (n := 1) (m := 32) (cap := 33) rfl rfl hrd (m0M _) ap2 (by have := w0E (2 + b); omega) (bb2 (2 + b) u) (k0U _ _) ?_
 intro w40 st40
 have st40 : St Nob w w40 [(g3, cw 4 (elN m x) ++ (cw 4 (elN m y) ++ cw 4 (elN m z)), 174), (gb, bb2 (2 + b) u, 5), (g6, cw 4 (elN m i), 123), (g7, cw 4 (elN m ii), 123), (g8, cw 4 v, 167)] := st40
 clear st39 hrd
 try simp only [clL]
 refine a0a rfl rfl apW ?_
 try simp only [clL]
 refine a0e ?_
 refine NoPanic.normal ?_
 have hown : Own w40 w.heap.size 5 1 (.slice (some ⟨gb, 0, none⟩) 33 33) 33 (bb2 (2 + b) u) := by
  have h := st40.at 1 rfl
  have h2 := Own.made h w.heap.size HBB.out 1 33 33 (Nat.le_refl _) ap9 (by have := r0i (2 + b) u; omega)
  rwa [List.take_of_length_le (by have := r0i (2 + b) u; omega)] at h2
 have hfr := st40.fr
 clear st40
 go_wp2_with fail
 go_ret
 exact ⟨_, rfl, by rw [HBV.out]; unfold bb2 at hown; exact hown, hfr⟩
end Go.Proofs.YtpfimiajoifjaaaGreat
namespace Go.Mv
open Go.RowKit
section
variable {P : Program} {ops : Array Oper} {md : Region.Mode} {Q : Exit → Act → World → Prop} {S : World → Prop} {m : Nat}
def b0j (P : Program) (ops : Array Oper) (Q : Exit → Act → World → Prop) (S : World → Prop) : Pl → Act → World → Prop
 | .nil, a, w => Q .normal a w
 | .w i s, a, w => ∃ o v, ops[i]? = some o ∧ YieldsIf P ops (fun _ => True) o v a ∧ b0j P ops Q S s (a.put o.dst v) w
 | .t i s, a, w => ∃ o v, ops[i]? = some o ∧ YieldsIf P ops S o v a ∧ b0j P ops Q S s (a.put o.dst v) w
 | .r i s, a, w => wpOp P ops Q i (fun a' w' => S w' ∧ b0j P ops Q S s a' w') a w
 | .m i s, a, w => wpOp P ops Q i (fun a' w' => b0j P ops Q S s a' w') a w
 | .b _ _ _ _, _, _ => False
 | .c _ _ _ _ _ _, _, _ => False
theorem c0J (hsel : Region.noSelect ops = true) (hm : m < ops.size) (hQ : ∀ c (d : Option Tmp) v a w, Q (.panic c) (Act.put a d v) w → Q (.panic c) a w) :
  ∀ (s : Pl) (listed : Array Bool) (a : Act) (w : World), Cl md ops listed → b0K md ops m s listed = true → (listed.getD m true = false → S w) → b0j P ops Q S s a w → wpP P md ops Q S m s.len listed a w
 | .nil, listed, a, w, _, hB, _, h => ⟨by simpa [b0K] using hB, h⟩
 | .w i r, listed, a, w, inv, hB, hS, h => by
  obtain ⟨o, v, ho, hy, hK⟩ := h
  simp only [b0K, Bool.and_eq_true, decide_eq_true_eq] at hB
  obtain ⟨⟨⟨him, hr⟩, hf⟩, hB'⟩ := hB
  have hr' : i ∈ Region.ready md ops listed := by simpa using hr
  exact g0Z ho (Region.noSelect_spec hsel) (fun c a w => hQ c o.dst v a w) him hm r.len listed a w inv (Region.free_spec ho hf) hr' hy hS
   (c0J hsel hm hQ r _ _ w (inv.set hr') hB' (fun h => hS (by rwa [getD_set_ne true him] at h)) hK)
 | .t i r, listed, a, w, inv, hB, hS, h => by
  obtain ⟨o, v, ho, hy, hK⟩ := h
  simp only [b0K, Bool.and_eq_true, decide_eq_true_eq] at hB
  obtain ⟨⟨⟨⟨⟨him, hml⟩, hr⟩, hf⟩, han⟩, hB'⟩ := hB
  have hr' : i ∈ Region.ready md ops listed := by simpa using hr
  exact h0a ho (Region.noSelect_spec hsel) (fun c a w => hQ c o.dst v a w) him han r.len listed a w inv hml (Region.free_spec ho hf) hr' hy (hS hml)
   (c0J hsel hm hQ r _ _ w (inv.set hr') hB' (fun _ => hS hml) hK)
 | .r i r, listed, a, w, inv, hB, hS, h => by
  simp only [b0K, Bool.and_eq_true, decide_eq_true_eq] at hB
  obtain ⟨⟨⟨him, hml⟩, hr⟩, hB'⟩ := hB
  have hr' : i ∈ Region.ready md ops listed := by rw [hr]; simp
  refine ⟨fun h0 => (by rw [hr] at h0; cases h0), fun j hj => ?_⟩
  rw [hr] at hj
  have hj' : j = i := by simpa using hj
  subst hj'
  exact wpOp_mono (fun a' w' h' => ⟨fun _ _ => h'.1, c0J hsel hm hQ r _ a' w' (inv.set hr') hB' (fun _ => h'.1) h'.2⟩) h
 | .m i r, listed, a, w, inv, hB, hS, h => by
  simp only [b0K, Bool.and_eq_true, Bool.or_eq_true, decide_eq_true_eq] at hB
  obtain ⟨⟨him, hr⟩, hB'⟩ := hB
  have hr' : i ∈ Region.ready md ops listed := by rw [hr]; simp
  refine ⟨fun h0 => (by rw [hr] at h0; cases h0), fun j hj => ?_⟩
  rw [hr] at hj
  have hj' : j = i := by simpa using hj
  subst hj'
  have hml : (listed.setIfInBounds j true).getD m true = true := by
   rcases him with e | e
   ·subst e; exact b0x (by rw [inv.size]; exact hm)
   ·by_cases e2 : j = m
    ·subst e2; exact b0x (by rw [inv.size]; exact hm)
    ·rw [getD_set_ne true e2]; exact e
  refine wpOp_mono (fun a' w' h' => ⟨fun h1 h2 => ?_, c0J hsel hm hQ r _ a' w' (inv.set hr') hB' (fun h1 => by rw [hml] at h1; cases h1) h'⟩) h
  rcases him with e | e
  ·exact absurd e h2
  ·rw [e] at h1; cases h1
 | .b _ _ _ _, _, _, _, _, _, _, h => h.elim
 | .c _ _ _ _ _ _, _, _, _, _, _, _, h => h.elim
theorem b0q {id : Nat} {a : Act} {w : World} {l : List Oper} (S : World → Prop) (m : Nat) (s : Pl) (hm : P.follows .mixedOrders = true) (hB : i0X l.toArray m s = true)
  (hS : S w.drew) (hQ : ∀ c (d : Option Tmp) v a w, Q (.panic c) (Act.put a d v) w → Q (.panic c) a w)
  (h : b0j P l.toArray Q S s a w.drew) : (Code.region id l.toArray true).wp P Q a w := by
 simp only [i0X, Bool.and_eq_true, decide_eq_true_eq] at hB
 obtain ⟨⟨⟨hsel, hms⟩, hlen⟩, hseq⟩ := hB
 have inv0 : Cl .any l.toArray (Array.replicate l.toArray.size false) :=
  ⟨by simp, fun j oj _ hl => (by rw [getD_replicate_false] at hl; cases hl)⟩
 have H := c0J (md := .any) hsel hms hQ s _ a w.drew inv0 hseq (fun _ => hS) h
 rw [hlen] at H
 exact wp_region_any hm (d0A _ _ _ _ H)
variable {l : List Oper} {i : Nat} {s : Pl} {a : Act} {w : World} {o : Oper}
theorem d0l (h : Q .normal a w) : b0j P ops Q S .nil a w := h
theorem a0p (ho : l[i]? = some o) (hg : Region.wanted o (yielded l.toArray a.tmps) = true) {v : Value} (hv : ∀ wx, (execOp a.eval o).run P wx = .ok (.value v) wx) (h : b0j P l.toArray Q S s (a.put o.dst v) w) : b0j P l.toArray Q S (.w i s) a w :=
 ⟨o, v, by simpa using ho, .inl ⟨hg, fun wx _ => hv wx⟩, h⟩
theorem b0o (ho : l[i]? = some o) (hg : Region.wanted o (yielded l.toArray a.tmps) = false) (h : b0j P l.toArray Q S s (a.put o.dst undef) w) : b0j P l.toArray Q S (.w i s) a w :=
 ⟨o, undef, by simpa using ho, .inr ⟨hg, rfl⟩, h⟩
theorem d0m (ho : l[i]? = some o) (hg : Region.wanted o (yielded l.toArray a.tmps) = false) (h : b0j P l.toArray Q S s (a.put o.dst undef) w) : b0j P l.toArray Q S (.t i s) a w :=
 ⟨o, undef, by simpa using ho, .inr ⟨hg, rfl⟩, h⟩
theorem c0R (ho : l[i]? = some o) (hg : Region.wanted o (yielded l.toArray a.tmps) = true) {v : Value} (hv : ∀ wx, S wx → (execOp a.eval o).run P wx = .ok (.value v) wx) (h : b0j P l.toArray Q S s (a.put o.dst v) w) : b0j P l.toArray Q S (.t i s) a w :=
 ⟨o, v, by simpa using ho, .inl ⟨hg, hv⟩, h⟩
theorem c0e (ho : l[i]? = some o) (hg : Region.wanted o (yielded l.toArray a.tmps) = true) {ty : TypeId} {x : Operand} (hop : o.op = .load ty x) {g p : Nat} (hx : a.eval x = .pointer (some ⟨g, p, none⟩)) (cs : List Value) (hS : ∀ wx, S wx → wx.rangeAt g p cs)
  {d : TypeDesc} (hu : P.underlying ty = some d) (hd : d.isRow = true) (hi : (P.info? ty).map (·.size) = some cs.length) (h : b0j P l.toArray Q S s (a.put o.dst (.agg cs.toArray)) w) : b0j P l.toArray Q S (.t i s) a w :=
 ⟨o, _, by simpa using ho, yieldsIf_load_mid hg ty x hop g p hx cs d hS hu hd hi, h⟩
theorem e0r (ho : l[i]? = some o) (hg : Region.wanted o (yielded l.toArray a.tmps) = true) (h : o.wp P a w (fun a' w' => S w' ∧ b0j P l.toArray Q S s a' w') Q) : b0j P l.toArray Q S (.r i s) a w := by
 have ho' : l.toArray[i]? = some o := by simpa using ho
 show wpOp _ _ _ _ _ _ _
 unfold wpOp
 simp only [ho']
 rw [if_pos hg]
 exact .inl h
theorem m0u (ho : l[i]? = some o) (hg : Region.wanted o (yielded l.toArray a.tmps) = false) (h : S w ∧ b0j P l.toArray Q S s (a.put o.dst undef) w) : b0j P l.toArray Q S (.r i s) a w := by
 have ho' : l.toArray[i]? = some o := by simpa using ho
 show wpOp _ _ _ _ _ _ _
 unfold wpOp
 simp only [ho']
 rw [if_neg (by rw [hg]; decide)]
 exact h
theorem e0s (ho : l[i]? = some o) (hg : Region.wanted o (yielded l.toArray a.tmps) = true) (h : o.wp P a w (fun a' w' => b0j P l.toArray Q S s a' w') Q) : b0j P l.toArray Q S (.m i s) a w := by
 have ho' : l.toArray[i]? = some o := by simpa using ho
 show wpOp _ _ _ _ _ _ _
 unfold wpOp
 simp only [ho']
 rw [if_pos hg]
 exact .inl h
end
end Go.Mv
namespace Go.Mv
open Go.RowKit
theorem b0A {w : World} {b o n : Nat} {vs : List Value} (h : Rd w (some ⟨b, o, none⟩) n vs) (v : Value) (hv : vs[0]? = some v) : w.cell? ⟨b, o, none⟩ = some v := by
 have hl : 0 < vs.length := by
  rcases Nat.eq_zero_or_pos vs.length with h0 | h0
  ·rw [List.length_eq_zero_iff.1 h0] at hv; cases hv
  ·exact h0
 obtain ⟨b', o', he, hc⟩ := h.at (by have := h.len; omega)
 simp only [Option.some.injEq, Addr.mk.injEq] at he
 obtain ⟨rfl, rfl, -⟩ := he
 simpa using hc 0 v hv
theorem RdB.tail {w : World} {a : Option Addr} {n : Nat} {l : List UInt8} (h : RdB w a n l) (c : Nat) (h1 : 1 ≤ n) (hc : n ≤ c) : RdB w (c0q a 1 c) (n - 1) (l.drop 1) := by
 have h2 := i0V h 1 n c h1 hc (Nat.le_refl _)
 have hl := h.len
 have e : ((bs l).drop 1).take (n - 1) = bs (l.drop 1) := by
  rw [List.take_of_length_le (by rw [List.length_drop, a0C]; omega)]
  simp [bs]
 rw [e] at h2
 exact h2
end Go.Mv
namespace Go.Proofs.YtpfimiajoifjaaaGreat
section
open Go.RowKit Go.Mv Mvp Mvq
theorem n0w : Tryz.prog.built 167 [] = some #[.int .u64 0, .int .u64 0, .int .u64 0, .int .u64 0] := by kernel_rfl
theorem g0H : Tryz.prog.built 174 [] = some (cw 4 0 ++ (cw 4 0 ++ cw 4 0)).toArray := by kernel_rfl
theorem e0B : (Tryz.prog.info? 5).map (·.size) = some 1 := by kernel_rfl
theorem r0k : (Tryz.prog.info? 44).map (·.size) = some 1 := by kernel_rfl
theorem r0l (x y : Nat) {o : Oper} {a : Act} {p q : Operand} {T : TypeId} (ho : o.op = .binOp .eql 167 p q T) (hp : a.eval p = i4 x) (hq : a.eval q = i4 y) {b : Bool} (hb : decide (x % B64 ^ 4 = y % B64 ^ 4) = b) (w : World) :
  (execOp a.eval o).run Tryz.prog w = .ok (.value (.bool b)) w := by
 subst hb
 exact f0U ho hp hq w (run_eqGuard_agg w .eql 167 p q _ _ Tryz.eqGuardType167) (g0l w (q0A Tryz.underlying167 Tryz.underlying44 r0k x y w))
theorem i0K (l : List UInt8) (h : l.length = 33) : tlN l < B64 ^ 4 := e0w (l.drop 1) (by rw [List.length_drop]; omega)
theorem f0X (a : Option Addr) (c : Nat) (l : List UInt8) (w : World) (hb : RdB w a 32 (l.drop 1)) : Calls Tryz.prog 158 #[.slice a 32 c] w fun e w' => e = .returned (i4 (tlN l)) ∧ Fr Nob w w' :=
 b0T a 32 c (l.drop 1) w hb ap2
def atY (M n : Nat) : Nat := if b0J M (e0f n) then rtV M (e0f n) else 0
theorem A0X (m : Md) (gc gp bx by_ : Nat) (w : World) (hok : m.Ok) (hcv : Has w gc (d0v m gp bx by_) 184) (hpm : Has w gp (mdL m) 234) (x : Nat) :
  Calls Tryz.prog 225 #[.pointer (some ⟨gc, 0, none⟩), i4 (elN m x)] w fun e w' => e = .returned (.tuple #[ptV m x (atY m.M x) 1, .bool (b0J m.M (e0f x))]) ∧ Fr Nob w w' := by
 unfold atY
 cases h : b0J m.M (e0f x)
 ·exact A0d m gc gp bx by_ w hok hcv hpm x _ _ _ rfl rfl rfl h
 ·exact A0c m gc gp bx by_ w hok hcv hpm x _ _ _ rfl rfl rfl h
theorem e0Y (a b : Nat) (w : World) (ha : a < B64 ^ 4) (hb : b < B64 ^ 4) (r : Bool) (hr : decide (a < b) = r) :
  Calls Tryz.prog 159 #[i4 a, i4 b] w fun e w' => e = .returned (.bool r) ∧ Fr Nob w w' := by
 subst hr; exact f0r a b w ha hb
theorem u0S (m : Md) (gc gp bx by_ : Nat) (w : World) (hok : m.Ok) (hcv : Has w gc (d0v m gp bx by_) 184) (hpm : Has w gp (mdL m) 234) (x : Nat) (r : Bool) (hr : b0J m.M (e0f x) = r) :
  Calls Tryz.prog 225 #[.pointer (some ⟨gc, 0, none⟩), i4 (elN m x)] w fun e w' => e = .returned (.tuple #[.agg (cw 4 (elN m x) ++ (cw 4 (elN m (atY m.M x)) ++ cw 4 (elN m 1))).toArray, .bool r]) ∧ Fr Nob w w' := by
 subst hr; exact A0X m gc gp bx by_ w hok hcv hpm x
theorem o0P (m : Md) (gc gp bx by_ : Nat) (w : World) (hok : m.Ok) (hcv : Has w gc (d0v m gp bx by_) 184) (hpm : Has w gp (mdL m) 234) (x y z : Nat) :
  Calls Tryz.prog 226 #[.pointer (some ⟨gc, 0, none⟩), .agg (cw 4 (elN m x) ++ (cw 4 (elN m y) ++ cw 4 (elN m z))).toArray] w fun e w' => e = .returned (.agg (cw 4 (elN m x) ++ (cw 4 (elN m (m.M - y % m.M)) ++ cw 4 (elN m z))).toArray) ∧ Fr Nob w w' :=
 k0E m gc gp bx by_ w hok hcv hpm x y z
attribute [local irreducible] a0v lw mix cw b0e b0f b0a beN b0l b0b a0z a0F elN mdL b0m rtN rtV b0J gXn gYn tlN atY e0f
theorem n0x : (Value.agg #[.int .u64 0, .int .u64 0, .int .u64 0, .int .u64 0]) = i4 0 := by rw [i4, e0l]; rfl
theorem r0m (x : Nat) (hx : x < B64 ^ 4) (b : Bool) (hb : (x == 0) = b) (w : World) :
  Calls Tryz.prog 224 #[i4 x] w fun e w' => e = .returned (.bool b) ∧ Fr Nob w w' := by
 subst hb
 have HB := qH (show decide (x % B64 ^ 4 = 0 % B64 ^ 4) = (x == 0) by rw [Nat.mod_eq_of_lt hx, Nat.zero_mod]; rfl)
 clear hx
 have st0 := St.start Nob w
 go_enter Tryz.func224, Tryz.ntmps224
 go_wp2_with (with_reducible refine wSk 1 ?_)
 refine a0r st0 rfl rfl rfl (cw 4 x) rfl ?_
 intro g1 w1 st1
 clear st0
 go_wp2_with (with_reducible refine wSk 3 ?_)
 refine a0m st1 0 rfl rfl rfl Tryz.underlying167 rfl ap3 ?_
 go_wp2_with (with_reducible refine wSk 4 ?_)
 refine c0r rfl rfl _ n0w ?_
 rw [n0x]
 go_wp2_with (with_reducible refine wSk 5 ?_)
 refine m0i rfl (r0l x 0 rfl rfl rfl HB.out _) ?_
 have hfr := st1.fr
 clear st1
 go_wp2_with fail
 go_ret
 exact ⟨rfl, hfr⟩
theorem t0s (m : Md) (gc gp bx by_ : Nat) (w : World) (hok : m.Ok) (hcv : Has w gc (d0v m gp bx by_) 184) (hpm : Has w gp (mdL m) 234) (a : Option Addr) (n c : Nat) (l : List UInt8) (hb : RdB w a n l) (_hc : n ≤ c) (h33 : l.length ≠ 33) :
  Calls Tryz.prog 153 #[.pointer (some ⟨gc, 0, none⟩), .slice a n c] w fun e w' => e = .returned (.tuple #[ptV m 0 0 0, .bool false]) ∧ Fr Nob w w' := by
 have HOK := qH hok
 have HCV := qH hcv
 have HPM := qH hpm
 clear hok hcv hpm
 have HN := qH (show n ≠ 33 by have := hb.len; omega)
 clear hb _hc h33
 have st0 := St.start Nob w
 go_enter Tryz.func153, Tryz.ntmps153
 go_wp2_with (with_reducible refine wSk 4 ?_)
 refine a0b st0 rfl rfl (z := .agg (List.replicate 12 (.int .u64 0)).toArray) ap0 (cw 4 0 ++ (cw 4 0 ++ cw 4 0)) ap5 ?_
 intro g4 w1 st1
 clear st0
 have hne : ((n : Int) != 33) = true := by have := HN.out; simp; omega
 go_wp2_with (with_reducible refine wSk 12 ?_)
 refine c0r rfl rfl _ g0H ?_
 go_wp2_with (with_reducible refine wSn ?_)
 refine a0c st1 0 rfl rfl rfl rfl rfl (by first | (simp only; done) | (simp only [List.length_append, a0g]; done)) ap3 (b0p _ _ _) ?_
 intro w2 st2
 clear st1
 have hr := st2.at 0 rfl
 have hfr := st2.fr
 clear st2
 go_wp2_with fail
 exact bodyPost_ret (b0i rfl rfl hr Tryz.underlying174 rfl ap3 rfl) rfl ⟨by unfold ptV ptL; rw [d0u]; rfl, hfr⟩
theorem k0V (m : Md) (gc gp bx by_ : Nat) (w : World) (hok : m.Ok) (hcv : Has w gc (d0v m gp bx by_) 184) (hpm : Has w gp (mdL m) 234) (a : Option Addr) (n c : Nat) (l : List UInt8) (hb : RdB w a n l) (hc : n ≤ c) (h33 : l.length = 33) (h0 : (bs l)[0]? = some (.int .u8 0)) (b : Bool) (hzb : (tlN l == 0) = b) :
  Calls Tryz.prog 153 #[.pointer (some ⟨gc, 0, none⟩), .slice a n c] w fun e w' => e = .returned (.tuple #[ptV m 1 1 0, .bool b]) ∧ Fr Nob w w' := by
 have HOK := qH hok
 have HCV := qH hcv
 have HPM := qH hpm
 clear hok hcv hpm
 have h33n : n = 33 := by have := hb.len; omega
 subst h33n
 obtain ⟨ba, oa, rfl, -⟩ := Rd.at hb ap2
 have HB := qH hb
 have HC := qH hc
 have HT := qH (RdB.tail hb c ap2 hc)
 have H0 := qH h0
 have HTN := qH (i0K l h33)
 clear hb hc h33 h0
 have HZB := qH hzb
 clear hzb
 have st0 := St.start Nob w
 go_enter Tryz.func153, Tryz.ntmps153
 go_wp2_with (with_reducible refine wSk 4 ?_)
 refine a0b st0 rfl rfl (z := .agg (List.replicate 12 (.int .u64 0)).toArray) ap0 (cw 4 0 ++ (cw 4 0 ++ cw 4 0)) ap5 ?_
 intro g4 w1 st1
 clear st0
 have hne : (((33 : Nat) : Int) != 33) = false := by rfl
 go_wp2_with (with_reducible refine wSk 14 ?_)
 refine g0f rfl rfl Tryz.underlying23 e0B rfl 1 33 ⟨_, rfl⟩ rfl ap2 HC.out ?_
 rw [show (33 : Nat) - 1 = 32 from rfl]
 go_wp2_with fail
 refine (f0X _ _ l _ (HT.out.still st1.fr)).mono ?_
 rintro e' w2 ⟨rfl, hf2⟩
 have st2 := st1.keep hf2
 clear st1 hf2
 go_wp2_with (with_reducible refine wSk 6 ?_)
 refine a0b st2 rfl rfl (z := zAd) ap0 (cw 4 0) ap5 ?_
 intro g6 w3 st3
 clear st2
 go_wp2_with (with_reducible refine wSn ?_)
 refine a0c st3 1 rfl rfl rfl rfl rfl ap6 ap3 (a0f _ _) ?_
 intro w4 st4
 clear st3
 have hcell := b0A (HB.out.still st4.fr) _ H0.out
 go_wp2_with fail
 clear hcell
 go_wp2_with fail
 refine wp_region_noPanic ?_
 refine a0d (fun wx => St Nob w wx [(g4, cw 4 0 ++ (cw 4 0 ++ cw 4 0), 174), (g6, cw 4 (tlN l), 167)]) 4 (.w 0 (.t 2 (.r 1 (.r 3 (.m 4 (.w 5 .nil)))))) ap0 ap0 st4.drew (fun _ _ _ _ _ h => h) ?_
 have hd4 := st4.drew
 clear st4
 refine a0a rfl rfl apW ?_
 try simp only [clL]
 refine a0h rfl rfl rfl rfl (cw 4 (tlN l)) (fun wx hS => St.rangeL hS 1 rfl 0 _ dZl) Tryz.underlying167 rfl ap3 ?_
 try simp only [clL]
 refine a0q rfl rfl ?_
 go_simp
 refine (k0R m gc gp bx by_ _ HOK.out (HCV.out.keep hd4.fr id) (HPM.out.keep hd4.fr id)).mono ?_
 rintro e' w5 ⟨rfl, hf5⟩
 have st5 := hd4.keep hf5
 clear hf5
 clear hd4
 refine ⟨st5, ?_⟩
 try simp only [clL]
 refine a0q rfl rfl ?_
 go_simp
 refine (r0m (tlN l) HTN.out b HZB.out _).mono ?_
 rintro e' w6 ⟨rfl, hf6⟩
 have st6 := st5.keep hf6
 clear hf6
 clear st5
 refine ⟨st6, ?_⟩
 try simp only [clL]
 refine a0o rfl rfl ?_
 refine a0i st6 0 rfl rfl rfl rfl ap6 ap3 (b0p _ _ _) ?_
 intro w7 st7
 clear st6
 try simp only [Act.put]
 refine a0a rfl rfl apW ?_
 try simp only [clL]
 refine a0e ?_
 refine NoPanic.normal ?_
 have hr := st7.at 0 rfl
 have hfr := st7.fr
 clear st7
 go_wp2_with fail
 exact bodyPost_ret (b0i rfl rfl hr Tryz.underlying174 rfl ap3 rfl) rfl ⟨by unfold ptV ptL; rfl, hfr⟩
theorem t0t (m : Md) (gc gp bx by_ : Nat) (w : World) (hok : m.Ok) (hcv : Has w gc (d0v m gp bx by_) 184) (hpm : Has w gp (mdL m) 234) (a : Option Addr) (n c : Nat) (l : List UInt8) (hb : RdB w a n l) (hc : n ≤ c) (h33 : l.length = 33) (q : Nat) (h0 : (bs l)[0]? = some (.int .u8 (q : Int))) (hq0 : ((q : Int) == 0) = false) (hq2 : ((q : Int) != 2) = true) (hq3 : ((q : Int) != 3) = true) :
  Calls Tryz.prog 153 #[.pointer (some ⟨gc, 0, none⟩), .slice a n c] w fun e w' => e = .returned (.tuple #[ptV m 0 0 0, .bool false]) ∧ Fr Nob w w' := by
 have HOK := qH hok
 have HCV := qH hcv
 have HPM := qH hpm
 clear hok hcv hpm
 have h33n : n = 33 := by have := hb.len; omega
 subst h33n
 obtain ⟨ba, oa, rfl, -⟩ := Rd.at hb ap2
 have HB := qH hb
 have HC := qH hc
 have HT := qH (RdB.tail hb c ap2 hc)
 have H0 := qH h0
 have HTN := qH (i0K l h33)
 clear hb hc h33 h0
 have HQ0 := qH hq0
 have HQ2 := qH hq2
 have HQ3 := qH hq3
 clear hq0 hq2 hq3
 have st0 := St.start Nob w
 go_enter Tryz.func153, Tryz.ntmps153
 go_wp2_with (with_reducible refine wSk 4 ?_)
 refine a0b st0 rfl rfl (z := .agg (List.replicate 12 (.int .u64 0)).toArray) ap0 (cw 4 0 ++ (cw 4 0 ++ cw 4 0)) ap5 ?_
 intro g4 w1 st1
 clear st0
 have hne : (((33 : Nat) : Int) != 33) = false := by rfl
 go_wp2_with (with_reducible refine wSk 14 ?_)
 refine g0f rfl rfl Tryz.underlying23 e0B rfl 1 33 ⟨_, rfl⟩ rfl ap2 HC.out ?_
 rw [show (33 : Nat) - 1 = 32 from rfl]
 go_wp2_with fail
 refine (f0X _ _ l _ (HT.out.still st1.fr)).mono ?_
 rintro e' w2 ⟨rfl, hf2⟩
 have st2 := st1.keep hf2
 clear st1 hf2
 go_wp2_with (with_reducible refine wSk 6 ?_)
 refine a0b st2 rfl rfl (z := zAd) ap0 (cw 4 0) ap5 ?_
 intro g6 w3 st3
 clear st2
 go_wp2_with (with_reducible refine wSn ?_)
 refine a0c st3 1 rfl rfl rfl rfl rfl ap6 ap3 (a0f _ _) ?_
 intro w4 st4
 clear st3
 have hq0 := HQ0.out
 have hq2 := HQ2.out
 have hq3 := HQ3.out
 have hcell := b0A (HB.out.still st4.fr) _ H0.out
 go_wp2_with fail
 clear hcell
 go_wp2_with fail
 refine wp_region_noPanic ?_
 refine b0q (fun wx => St Nob w wx [(g4, cw 4 0 ++ (cw 4 0 ++ cw 4 0), 174), (g6, cw 4 (tlN l), 167)]) 22 (.w 0 (.w 1 (.t 2 (.w 3 (.w 4 (.w 5 (.w 6 (.t 7 (.w 8 (.w 9 (.w 10 (.t 11 (.w 12 (.w 13 (.w 14 (.t 15 (.w 16 (.w 17 (.t 18 (.r 19 (.w 20 (.w 21 (.m 22 .nil))))))))))))))))))))))) ap0 ap0 st4.drew (fun _ _ _ _ _ h => h) ?_
 have hd4 := st4.drew
 clear st4
 refine a0p rfl rfl apW ?_
 try simp only [clL]
 refine a0p rfl rfl apW ?_
 try simp only [clL]
 refine c0R (v := ?_) rfl rfl (fun wx hS => ?_) ?_
 rotate_left 1
 ·(have hc := (b0A (HB.out.still (St.fr hS)) _ H0.out); clear hS; go_simp; with_reducible rfl)
 try simp only [clL]
 refine a0p rfl rfl apW ?_
 try simp only [clL]
 refine a0p rfl rfl apW ?_
 try simp only [clL]
 refine a0p rfl rfl apW ?_
 try simp only [clL]
 refine a0p rfl rfl apW ?_
 try simp only [clL]
 refine c0R (v := ?_) rfl rfl (fun wx hS => ?_) ?_
 rotate_left 1
 ·(have hc := (b0A (HB.out.still (St.fr hS)) _ H0.out); clear hS; go_simp; with_reducible rfl)
 try simp only [clL]
 refine a0p rfl rfl apW ?_
 try simp only [clL]
 refine a0p rfl rfl apW ?_
 try simp only [clL]
 refine a0p rfl rfl apW ?_
 try simp only [clL]
 refine d0m rfl rfl ?_
 try simp only [clL]
 refine b0o rfl rfl ?_
 try simp only [clL]
 refine b0o rfl rfl ?_
 try simp only [clL]
 refine b0o rfl rfl ?_
 try simp only [clL]
 refine d0m rfl rfl ?_
 try simp only [clL]
 refine b0o rfl rfl ?_
 try simp only [clL]
 refine b0o rfl rfl ?_
 try simp only [clL]
 refine d0m rfl rfl ?_
 try simp only [clL]
 refine m0u rfl rfl ⟨hd4, ?_⟩
 try simp only [clL]
 refine b0o rfl rfl ?_
 try simp only [clL]
 refine a0p rfl rfl apW ?_
 try simp only [clL]
 refine e0s rfl rfl ?_
 go_simp
 try simp only [clL]
 refine d0l ?_
 have st5 := hd4
 clear hd4
 refine NoPanic.normal ?_
 go_wp2_with (with_reducible refine wSk 48 ?_)
 refine c0r rfl rfl _ g0H ?_
 go_wp2_with (with_reducible refine wSn ?_)
 refine a0c st5 0 rfl rfl rfl rfl rfl (by first | (simp only; done) | (simp only [List.length_append, a0g]; done)) ap3 (b0p _ _ _) ?_
 intro w6 st6
 clear st5
 have hr := st6.at 0 rfl
 have hfr := st6.fr
 clear st6
 go_wp2_with fail
 exact bodyPost_ret (b0i rfl rfl hr Tryz.underlying174 rfl ap3 rfl) rfl ⟨by unfold ptV ptL; rw [d0u]; rfl, hfr⟩
theorem t0u (m : Md) (gc gp bx by_ : Nat) (w : World) (hok : m.Ok) (hcv : Has w gc (d0v m gp bx by_) 184) (hpm : Has w gp (mdL m) 234) (a : Option Addr) (n c : Nat) (l : List UInt8) (hb : RdB w a n l) (hc : n ≤ c) (h33 : l.length = 33) (h0 : (bs l)[0]? = some (.int .u8 2)) (hlt : decide (tlN l < m.M) = false) :
  Calls Tryz.prog 153 #[.pointer (some ⟨gc, 0, none⟩), .slice a n c] w fun e w' => e = .returned (.tuple #[ptV m 0 0 0, .bool false]) ∧ Fr Nob w w' := by
 have HOK := qH hok
 have HCV := qH hcv
 have HPM := qH hpm
 clear hok hcv hpm
 have h33n : n = 33 := by have := hb.len; omega
 subst h33n
 obtain ⟨ba, oa, rfl, -⟩ := Rd.at hb ap2
 have HB := qH hb
 have HC := qH hc
 have HT := qH (RdB.tail hb c ap2 hc)
 have H0 := qH h0
 have HTN := qH (i0K l h33)
 clear hb hc h33 h0
 have HDL := qH hlt
 clear hlt
 have st0 := St.start Nob w
 go_enter Tryz.func153, Tryz.ntmps153
 go_wp2_with (with_reducible refine wSk 4 ?_)
 refine a0b st0 rfl rfl (z := .agg (List.replicate 12 (.int .u64 0)).toArray) ap0 (cw 4 0 ++ (cw 4 0 ++ cw 4 0)) ap5 ?_
 intro g4 w1 st1
 clear st0
 have hne : (((33 : Nat) : Int) != 33) = false := by rfl
 go_wp2_with (with_reducible refine wSk 14 ?_)
 refine g0f rfl rfl Tryz.underlying23 e0B rfl 1 33 ⟨_, rfl⟩ rfl ap2 HC.out ?_
 rw [show (33 : Nat) - 1 = 32 from rfl]
 go_wp2_with fail
 refine (f0X _ _ l _ (HT.out.still st1.fr)).mono ?_
 rintro e' w2 ⟨rfl, hf2⟩
 have st2 := st1.keep hf2
 clear st1 hf2
 go_wp2_with (with_reducible refine wSk 6 ?_)
 refine a0b st2 rfl rfl (z := zAd) ap0 (cw 4 0) ap5 ?_
 intro g6 w3 st3
 clear st2
 go_wp2_with (with_reducible refine wSn ?_)
 refine a0c st3 1 rfl rfl rfl rfl rfl ap6 ap3 (a0f _ _) ?_
 intro w4 st4
 clear st3
 have hcell := b0A (HB.out.still st4.fr) _ H0.out
 go_wp2_with fail
 clear hcell
 go_wp2_with fail
 refine wp_region_noPanic ?_
 refine b0q (fun wx => St Nob w wx [(g4, cw 4 0 ++ (cw 4 0 ++ cw 4 0), 174), (g6, cw 4 (tlN l), 167)]) 22 (.w 0 (.w 1 (.t 2 (.w 3 (.w 4 (.w 5 (.w 6 (.t 7 (.w 8 (.w 9 (.w 10 (.t 11 (.w 12 (.w 13 (.w 14 (.t 15 (.w 16 (.w 17 (.t 18 (.r 19 (.w 20 (.w 21 (.m 22 .nil))))))))))))))))))))))) ap0 ap0 st4.drew (fun _ _ _ _ _ h => h) ?_
 have hd4 := st4.drew
 clear st4
 refine a0p rfl rfl apW ?_
 try simp only [clL]
 refine a0p rfl rfl apW ?_
 try simp only [clL]
 refine c0R (v := ?_) rfl rfl (fun wx hS => ?_) ?_
 rotate_left 1
 ·(have hc := (b0A (HB.out.still (St.fr hS)) _ H0.out); clear hS; go_simp; with_reducible rfl)
 try simp only [clL]
 refine a0p rfl rfl apW ?_
 try simp only [clL]
 refine a0p rfl rfl apW ?_
 try simp only [clL]
 refine b0o rfl rfl ?_
 try simp only [clL]
 refine b0o rfl rfl ?_
 try simp only [clL]
 refine d0m rfl rfl ?_
 try simp only [clL]
 refine b0o rfl rfl ?_
 try simp only [clL]
 refine a0p rfl rfl apW ?_
 try simp only [clL]
 refine a0p rfl rfl apW ?_
 try simp only [clL]
 refine c0e rfl rfl rfl rfl (cw 4 (tlN l)) (fun wx hS => St.rangeL hS 1 rfl 0 _ dZl) Tryz.underlying167 rfl ap3 ?_
 try simp only [clL]
 refine a0p rfl rfl apW ?_
 try simp only [clL]
 refine a0p rfl rfl apW ?_
 try simp only [clL]
 refine a0p rfl rfl apW ?_
 try simp only [clL]
 refine c0R (v := ?_) rfl rfl (fun wx hS => ?_) ?_
 rotate_left 1
 ·(have hc := (HCV.out.keep (St.fr hS) id).cell (i := 0) rfl; clear hS; go_simp; with_reducible rfl)
 try simp only [clL]
 refine a0p rfl rfl apW ?_
 try simp only [clL]
 refine a0p rfl rfl apW ?_
 try simp only [clL]
 refine c0e rfl rfl rfl rfl (cw 4 m.M) (fun wx hS => (HPM.out.keep (St.fr hS) id).range 0 _ (j0U m)) Tryz.underlying167 rfl ap3 ?_
 try simp only [clL]
 refine e0r rfl rfl ?_
 go_simp
 refine (e0Y (tlN l) m.M _ HTN.out HOK.out.lt false HDL.out).mono ?_
 rintro e' w5 ⟨rfl, hf5⟩
 have st5 := hd4.keep hf5
 clear hf5
 clear hd4
 refine ⟨st5, ?_⟩
 try simp only [clL]
 refine a0p rfl rfl apW ?_
 try simp only [clL]
 refine a0p rfl rfl apW ?_
 try simp only [clL]
 refine e0s rfl rfl ?_
 go_simp
 try simp only [clL]
 refine d0l ?_
 refine NoPanic.normal ?_
 go_wp2_with (with_reducible refine wSk 48 ?_)
 refine c0r rfl rfl _ g0H ?_
 go_wp2_with (with_reducible refine wSn ?_)
 refine a0c st5 0 rfl rfl rfl rfl rfl (by first | (simp only; done) | (simp only [List.length_append, a0g]; done)) ap3 (b0p _ _ _) ?_
 intro w6 st6
 clear st5
 have hr := st6.at 0 rfl
 have hfr := st6.fr
 clear st6
 go_wp2_with fail
 exact bodyPost_ret (b0i rfl rfl hr Tryz.underlying174 rfl ap3 rfl) rfl ⟨by unfold ptV ptL; rw [d0u]; rfl, hfr⟩
theorem n0y (m : Md) (gc gp bx by_ : Nat) (w : World) (hok : m.Ok) (hcv : Has w gc (d0v m gp bx by_) 184) (hpm : Has w gp (mdL m) 234) (a : Option Addr) (n c : Nat) (l : List UInt8) (hb : RdB w a n l) (hc : n ≤ c) (h33 : l.length = 33) (h0 : (bs l)[0]? = some (.int .u8 2)) (hlt : decide (tlN l < m.M) = true) (r : Bool) (hr : b0J m.M (e0f (tlN l)) = r) :
  Calls Tryz.prog 153 #[.pointer (some ⟨gc, 0, none⟩), .slice a n c] w fun e w' => e = .returned (.tuple #[ptV m (tlN l) (atY m.M (tlN l)) 1, .bool r]) ∧ Fr Nob w w' := by
 have HOK := qH hok
 have HCV := qH hcv
 have HPM := qH hpm
 clear hok hcv hpm
 have h33n : n = 33 := by have := hb.len; omega
 subst h33n
 obtain ⟨ba, oa, rfl, -⟩ := Rd.at hb ap2
 have HB := qH hb
 have HC := qH hc
 have HT := qH (RdB.tail hb c ap2 hc)
 have H0 := qH h0
 have HTN := qH (i0K l h33)
 clear hb hc h33 h0
 have HDL := qH hlt
 clear hlt
 have HR := qH hr
 clear hr
 have st0 := St.start Nob w
 go_enter Tryz.func153, Tryz.ntmps153
 go_wp2_with (with_reducible refine wSk 4 ?_)
 refine a0b st0 rfl rfl (z := .agg (List.replicate 12 (.int .u64 0)).toArray) ap0 (cw 4 0 ++ (cw 4 0 ++ cw 4 0)) ap5 ?_
 intro g4 w1 st1
 clear st0
 have hne : (((33 : Nat) : Int) != 33) = false := by rfl
 go_wp2_with (with_reducible refine wSk 14 ?_)
 refine g0f rfl rfl Tryz.underlying23 e0B rfl 1 33 ⟨_, rfl⟩ rfl ap2 HC.out ?_
 rw [show (33 : Nat) - 1 = 32 from rfl]
 go_wp2_with fail
 refine (f0X _ _ l _ (HT.out.still st1.fr)).mono ?_
 rintro e' w2 ⟨rfl, hf2⟩
 have st2 := st1.keep hf2
 clear st1 hf2
 go_wp2_with (with_reducible refine wSk 6 ?_)
 refine a0b st2 rfl rfl (z := zAd) ap0 (cw 4 0) ap5 ?_
 intro g6 w3 st3
 clear st2
 go_wp2_with (with_reducible refine wSn ?_)
 refine a0c st3 1 rfl rfl rfl rfl rfl ap6 ap3 (a0f _ _) ?_
 intro w4 st4
 clear st3
 have hcell := b0A (HB.out.still st4.fr) _ H0.out
 go_wp2_with fail
 clear hcell
 go_wp2_with fail
 refine wp_region_noPanic ?_
 refine b0q (fun wx => St Nob w wx [(g4, cw 4 0 ++ (cw 4 0 ++ cw 4 0), 174), (g6, cw 4 (tlN l), 167)]) 22 (.w 0 (.w 1 (.t 2 (.w 3 (.w 4 (.w 5 (.w 6 (.t 7 (.w 8 (.w 9 (.w 10 (.t 11 (.w 12 (.w 13 (.w 14 (.t 15 (.w 16 (.w 17 (.t 18 (.r 19 (.w 20 (.w 21 (.m 22 .nil))))))))))))))))))))))) ap0 ap0 st4.drew (fun _ _ _ _ _ h => h) ?_
 have hd4 := st4.drew
 clear st4
 refine a0p rfl rfl apW ?_
 try simp only [clL]
 refine a0p rfl rfl apW ?_
 try simp only [clL]
 refine c0R (v := ?_) rfl rfl (fun wx hS => ?_) ?_
 rotate_left 1
 ·(have hc := (b0A (HB.out.still (St.fr hS)) _ H0.out); clear hS; go_simp; with_reducible rfl)
 try simp only [clL]
 refine a0p rfl rfl apW ?_
 try simp only [clL]
 refine a0p rfl rfl apW ?_
 try simp only [clL]
 refine b0o rfl rfl ?_
 try simp only [clL]
 refine b0o rfl rfl ?_
 try simp only [clL]
 refine d0m rfl rfl ?_
 try simp only [clL]
 refine b0o rfl rfl ?_
 try simp only [clL]
 refine a0p rfl rfl apW ?_
 try simp only [clL]
 refine a0p rfl rfl apW ?_
 try simp only [clL]
 refine c0e rfl rfl rfl rfl (cw 4 (tlN l)) (fun wx hS => St.rangeL hS 1 rfl 0 _ dZl) Tryz.underlying167 rfl ap3 ?_
 try simp only [clL]
 refine a0p rfl rfl apW ?_
 try simp only [clL]
 refine a0p rfl rfl apW ?_
 try simp only [clL]
 refine a0p rfl rfl apW ?_
 try simp only [clL]
 refine c0R (v := ?_) rfl rfl (fun wx hS => ?_) ?_
 rotate_left 1
 ·(have hc := (HCV.out.keep (St.fr hS) id).cell (i := 0) rfl; clear hS; go_simp; with_reducible rfl)
 try simp only [clL]
 refine a0p rfl rfl apW ?_
 try simp only [clL]
 refine a0p rfl rfl apW ?_
 try simp only [clL]
 refine c0e rfl rfl rfl rfl (cw 4 m.M) (fun wx hS => (HPM.out.keep (St.fr hS) id).range 0 _ (j0U m)) Tryz.underlying167 rfl ap3 ?_
 try simp only [clL]
 refine e0r rfl rfl ?_
 go_simp
 refine (e0Y (tlN l) m.M _ HTN.out HOK.out.lt true HDL.out).mono ?_
 rintro e' w5 ⟨rfl, hf5⟩
 have st5 := hd4.keep hf5
 clear hf5
 clear hd4
 refine ⟨st5, ?_⟩
 try simp only [clL]
 refine a0p rfl rfl apW ?_
 try simp only [clL]
 refine a0p rfl rfl apW ?_
 try simp only [clL]
 refine e0s rfl rfl ?_
 go_simp
 try simp only [clL]
 refine d0l ?_
 refine NoPanic.normal ?_
 go_wp2_with fail
 refine wp_region_noPanic ?_
 refine a0d (fun wx => St Nob w wx [(g4, cw 4 0 ++ (cw 4 0 ++ cw 4 0), 174), (g6, cw 4 (tlN l), 167)]) 13 (.w 0 (.w 1 (.w 2 (.w 3 (.t 4 (.t 5 (.b 6 11 (.b 7 11 (.w 8 (.w 9 (.w 10 (.r 11 (.r 12 (.m 13 .nil)))))) (.r 7 (.w 8 (.w 9 (.w 10 (.r 12 (.m 13 .nil))))))) (.r 6 (.r 7 (.w 8 (.w 9 (.w 10 (.r 12 (.m 13 .nil)))))))))))))) ap0 ap0 st5.drew (fun _ _ _ _ _ h => h) ?_
 have hd5 := st5.drew
 clear st5
 refine a0a rfl rfl apW ?_
 try simp only [clL]
 refine a0a rfl rfl apW ?_
 try simp only [clL]
 refine a0a rfl rfl apW ?_
 try simp only [clL]
 refine a0a rfl rfl apW ?_
 try simp only [clL]
 refine a0L (v := ?_) rfl rfl (fun wx hS => ?_) ?_
 rotate_left 1
 ·(have hc := (HCV.out.keep (St.fr hS) id).cell (i := 0) rfl; clear hS; go_simp; with_reducible rfl)
 try simp only [clL]
 refine a0h rfl rfl rfl rfl (cw 4 (tlN l)) (fun wx hS => St.rangeL hS 1 rfl 0 _ dZl) Tryz.underlying167 rfl ap3 ?_
 try simp only [clL]
 refine e0i (C := fun g7 wz => St Nob w wz [(g4, cw 4 0 ++ (cw 4 0 ++ cw 4 0), 174), (g6, cw 4 (tlN l), 167), (g7, cw 4 (elN m (tlN l)) ++ (cw 4 (elN m (atY m.M (tlN l))) ++ cw 4 (elN m 1)), 174)]) (F := ?_) (fun key => ?_) ?_
 rotate_left 1
 ·skip
  refine c0C rfl rfl rfl rfl ?_ ?_
  ·skip
   go_simp
   refine (c0O m gp _ HOK.out (HPM.out.keep hd5.fr id) (tlN l) HTN.out).mono ?_
   rintro e' w6 ⟨rfl, hf6⟩
   have st6 := hd5.keep hf6
   clear hf6
   refine ⟨st6, ?_⟩
   try simp only [clL]
   refine c0C rfl rfl rfl rfl ?_ ?_
   ·skip
    go_simp
    refine (u0S m gc gp bx by_ _ HOK.out (HCV.out.keep st6.fr id) (HPM.out.keep st6.fr id) (tlN l) r HR.out).mono ?_
    rintro e' w7 ⟨rfl, hf7⟩
    have st7 := st6.keep hf7
    clear hf7
    refine ⟨st7, ?_⟩
    try simp only [clL]
    refine a0a rfl rfl apW ?_
    try simp only [clL]
    refine a0a rfl rfl apW ?_
    try simp only [clL]
    refine a0a rfl rfl apW ?_
    try simp only [clL]
    refine a0q rfl rfl ?_
    refine a0X st7 rfl (z := zAc) ap0 (cw 12 0) ap5 ?_
    intro g7 w8 st8
    refine ⟨St.less st8 ap4, ?_⟩
    try simp only [clL]
    refine a0q rfl rfl ?_
    refine a0i st8 2 rfl rfl rfl rfl ap6 ap3 (b0p _ _ _) ?_
    intro w9 st9
    refine ⟨St.less st9 ap4, ?_⟩
    try simp only [Act.put]
    refine a0o rfl rfl ?_
    go_simp
    try simp only [clL]
    refine a0e ?_
    exact key g7 _ st9
   ·skip
    refine a0X st6 rfl (z := zAc) ap0 (cw 12 0) ap5 ?_
    intro g7 w10 st10
    refine ⟨St.less st10 ap4, ?_⟩
    try simp only [clL]
    refine a0q rfl rfl ?_
    go_simp
    refine (u0S m gc gp bx by_ _ HOK.out (HCV.out.keep st10.fr id) (HPM.out.keep st10.fr id) (tlN l) r HR.out).mono ?_
    rintro e' w11 ⟨rfl, hf11⟩
    have st11 := st10.keep hf11
    clear hf11
    refine ⟨St.less st11 ap4, ?_⟩
    try simp only [clL]
    refine a0a rfl rfl apW ?_
    try simp only [clL]
    refine a0a rfl rfl apW ?_
    try simp only [clL]
    refine a0a rfl rfl apW ?_
    try simp only [clL]
    refine a0q rfl rfl ?_
    refine a0i st11 2 rfl rfl rfl rfl ap6 ap3 (b0p _ _ _) ?_
    intro w12 st12
    refine ⟨St.less st12 ap4, ?_⟩
    try simp only [Act.put]
    refine a0o rfl rfl ?_
    go_simp
    try simp only [clL]
    refine a0e ?_
    exact key g7 _ st12
  ·skip
   refine a0X hd5 rfl (z := zAc) ap0 (cw 12 0) ap5 ?_
   intro g7 w13 st13
   refine ⟨St.less st13 ap4, ?_⟩
   try simp only [clL]
   refine a0q rfl rfl ?_
   go_simp
   refine (c0O m gp _ HOK.out (HPM.out.keep st13.fr id) (tlN l) HTN.out).mono ?_
   rintro e' w14 ⟨rfl, hf14⟩
   have st14 := st13.keep hf14
   clear hf14
   refine ⟨St.less st14 ap4, ?_⟩
   try simp only [clL]
   refine a0q rfl rfl ?_
   go_simp
   refine (u0S m gc gp bx by_ _ HOK.out (HCV.out.keep st14.fr id) (HPM.out.keep st14.fr id) (tlN l) r HR.out).mono ?_
   rintro e' w15 ⟨rfl, hf15⟩
   have st15 := st14.keep hf15
   clear hf15
   refine ⟨St.less st15 ap4, ?_⟩
   try simp only [clL]
   refine a0a rfl rfl apW ?_
   try simp only [clL]
   refine a0a rfl rfl apW ?_
   try simp only [clL]
   refine a0a rfl rfl apW ?_
   try simp only [clL]
   refine a0q rfl rfl ?_
   refine a0i st15 2 rfl rfl rfl rfl ap6 ap3 (b0p _ _ _) ?_
   intro w16 st16
   refine ⟨St.less st16 ap4, ?_⟩
   try simp only [Act.put]
   refine a0o rfl rfl ?_
   go_simp
   try simp only [clL]
   refine a0e ?_
   exact key g7 _ st16
 intro g7 w17 st17
 have st17 : St Nob w w17 [(g4, cw 4 0 ++ (cw 4 0 ++ cw 4 0), 174), (g6, cw 4 (tlN l), 167), (g7, cw 4 (elN m (tlN l)) ++ (cw 4 (elN m (atY m.M (tlN l))) ++ cw 4 (elN m 1)), 174)] := st17
 clear hd5
 refine NoPanic.normal ?_
 have hcell := b0A (HB.out.still st17.fr) _ H0.out
 go_wp2_with (with_reducible refine wSk 67 ?_)
 refine a0s st17 2 rfl rfl rfl Tryz.underlying174 rfl rfl ap3 ?_
 go_wp2_with (with_reducible refine wSn ?_)
 refine a0c st17 0 rfl rfl rfl rfl rfl ap6 ap3 (b0p _ _ _) ?_
 intro w18 st18
 clear st17
 have hr := st18.at 0 rfl
 have hfr := st18.fr
 clear st18
 go_wp2_with fail
 exact bodyPost_ret (b0i rfl rfl hr Tryz.underlying174 rfl ap3 rfl) rfl ⟨by unfold ptV ptL; rfl, hfr⟩
theorem t0v (m : Md) (gc gp bx by_ : Nat) (w : World) (hok : m.Ok) (hcv : Has w gc (d0v m gp bx by_) 184) (hpm : Has w gp (mdL m) 234) (a : Option Addr) (n c : Nat) (l : List UInt8) (hb : RdB w a n l) (hc : n ≤ c) (h33 : l.length = 33) (h0 : (bs l)[0]? = some (.int .u8 3)) (hlt : decide (tlN l < m.M) = false) :
  Calls Tryz.prog 153 #[.pointer (some ⟨gc, 0, none⟩), .slice a n c] w fun e w' => e = .returned (.tuple #[ptV m 0 0 0, .bool false]) ∧ Fr Nob w w' := by
 have HOK := qH hok
 have HCV := qH hcv
 have HPM := qH hpm
 clear hok hcv hpm
 have h33n : n = 33 := by have := hb.len; omega
 subst h33n
 obtain ⟨ba, oa, rfl, -⟩ := Rd.at hb ap2
 have HB := qH hb
 have HC := qH hc
 have HT := qH (RdB.tail hb c ap2 hc)
 have H0 := qH h0
 have HTN := qH (i0K l h33)
 clear hb hc h33 h0
 have HDL := qH hlt
 clear hlt
 have st0 := St.start Nob w
 go_enter Tryz.func153, Tryz.ntmps153
 go_wp2_with (with_reducible refine wSk 4 ?_)
 refine a0b st0 rfl rfl (z := .agg (List.replicate 12 (.int .u64 0)).toArray) ap0 (cw 4 0 ++ (cw 4 0 ++ cw 4 0)) ap5 ?_
 intro g4 w1 st1
 clear st0
 have hne : (((33 : Nat) : Int) != 33) = false := by rfl
 go_wp2_with (with_reducible refine wSk 14 ?_)
 refine g0f rfl rfl Tryz.underlying23 e0B rfl 1 33 ⟨_, rfl⟩ rfl ap2 HC.out ?_
 rw [show (33 : Nat) - 1 = 32 from rfl]
 go_wp2_with fail
 refine (f0X _ _ l _ (HT.out.still st1.fr)).mono ?_
 rintro e' w2 ⟨rfl, hf2⟩
 have st2 := st1.keep hf2
 clear st1 hf2
 go_wp2_with (with_reducible refine wSk 6 ?_)
 refine a0b st2 rfl rfl (z := zAd) ap0 (cw 4 0) ap5 ?_
 intro g6 w3 st3
 clear st2
 go_wp2_with (with_reducible refine wSn ?_)
 refine a0c st3 1 rfl rfl rfl rfl rfl ap6 ap3 (a0f _ _) ?_
 intro w4 st4
 clear st3
 have hcell := b0A (HB.out.still st4.fr) _ H0.out
 go_wp2_with fail
 clear hcell
 go_wp2_with fail
 refine wp_region_noPanic ?_
 refine b0q (fun wx => St Nob w wx [(g4, cw 4 0 ++ (cw 4 0 ++ cw 4 0), 174), (g6, cw 4 (tlN l), 167)]) 22 (.w 0 (.w 1 (.t 2 (.w 3 (.w 4 (.w 5 (.w 6 (.t 7 (.w 8 (.w 9 (.w 10 (.t 11 (.w 12 (.w 13 (.w 14 (.t 15 (.w 16 (.w 17 (.t 18 (.r 19 (.w 20 (.w 21 (.m 22 .nil))))))))))))))))))))))) ap0 ap0 st4.drew (fun _ _ _ _ _ h => h) ?_
 have hd4 := st4.drew
 clear st4
 refine a0p rfl rfl apW ?_
 try simp only [clL]
 refine a0p rfl rfl apW ?_
 try simp only [clL]
 refine c0R (v := ?_) rfl rfl (fun wx hS => ?_) ?_
 rotate_left 1
 ·(have hc := (b0A (HB.out.still (St.fr hS)) _ H0.out); clear hS; go_simp; with_reducible rfl)
 try simp only [clL]
 refine a0p rfl rfl apW ?_
 try simp only [clL]
 refine a0p rfl rfl apW ?_
 try simp only [clL]
 refine a0p rfl rfl apW ?_
 try simp only [clL]
 refine a0p rfl rfl apW ?_
 try simp only [clL]
 refine c0R (v := ?_) rfl rfl (fun wx hS => ?_) ?_
 rotate_left 1
 ·(have hc := (b0A (HB.out.still (St.fr hS)) _ H0.out); clear hS; go_simp; with_reducible rfl)
 try simp only [clL]
 refine a0p rfl rfl apW ?_
 try simp only [clL]
 refine a0p rfl rfl apW ?_
 try simp only [clL]
 refine a0p rfl rfl apW ?_
 try simp only [clL]
 refine c0e rfl rfl rfl rfl (cw 4 (tlN l)) (fun wx hS => St.rangeL hS 1 rfl 0 _ dZl) Tryz.underlying167 rfl ap3 ?_
 try simp only [clL]
 refine a0p rfl rfl apW ?_
 try simp only [clL]
 refine a0p rfl rfl apW ?_
 try simp only [clL]
 refine a0p rfl rfl apW ?_
 try simp only [clL]
 refine c0R (v := ?_) rfl rfl (fun wx hS => ?_) ?_
 rotate_left 1
 ·(have hc := (HCV.out.keep (St.fr hS) id).cell (i := 0) rfl; clear hS; go_simp; with_reducible rfl)
 try simp only [clL]
 refine a0p rfl rfl apW ?_
 try simp only [clL]
 refine a0p rfl rfl apW ?_
 try simp only [clL]
 refine c0e rfl rfl rfl rfl (cw 4 m.M) (fun wx hS => (HPM.out.keep (St.fr hS) id).range 0 _ (j0U m)) Tryz.underlying167 rfl ap3 ?_
 try simp only [clL]
 refine e0r rfl rfl ?_
 go_simp
 refine (e0Y (tlN l) m.M _ HTN.out HOK.out.lt false HDL.out).mono ?_
 rintro e' w5 ⟨rfl, hf5⟩
 have st5 := hd4.keep hf5
 clear hf5
 clear hd4
 refine ⟨st5, ?_⟩
 try simp only [clL]
 refine a0p rfl rfl apW ?_
 try simp only [clL]
 refine a0p rfl rfl apW ?_
 try simp only [clL]
 refine e0s rfl rfl ?_
 go_simp
 try simp only [clL]
 refine d0l ?_
 refine NoPanic.normal ?_
 go_wp2_with (with_reducible refine wSk 48 ?_)
 refine c0r rfl rfl _ g0H ?_
 go_wp2_with (with_reducible refine wSn ?_)
 refine a0c st5 0 rfl rfl rfl rfl rfl (by first | (simp only; done) | (simp only [List.length_append, a0g]; done)) ap3 (b0p _ _ _) ?_
 intro w6 st6
 clear st5
 have hr := st6.at 0 rfl
 have hfr := st6.fr
 clear st6
 go_wp2_with fail
 exact bodyPost_ret (b0i rfl rfl hr Tryz.underlying174 rfl ap3 rfl) rfl ⟨by unfold ptV ptL; rw [d0u]; rfl, hfr⟩
theorem n0z (m : Md) (gc gp bx by_ : Nat) (w : World) (hok : m.Ok) (hcv : Has w gc (d0v m gp bx by_) 184) (hpm : Has w gp (mdL m) 234) (a : Option Addr) (n c : Nat) (l : List UInt8) (hb : RdB w a n l) (hc : n ≤ c) (h33 : l.length = 33) (h0 : (bs l)[0]? = some (.int .u8 3)) (hlt : decide (tlN l < m.M) = true) (r : Bool) (hr : b0J m.M (e0f (tlN l)) = r) :
  Calls Tryz.prog 153 #[.pointer (some ⟨gc, 0, none⟩), .slice a n c] w fun e w' => e = .returned (.tuple #[ptV m (tlN l) (m.M - (atY m.M (tlN l)) % m.M) 1, .bool r]) ∧ Fr Nob w w' := by
 have HOK := qH hok
 have HCV := qH hcv
 have HPM := qH hpm
 clear hok hcv hpm
 have h33n : n = 33 := by have := hb.len; omega
 subst h33n
 obtain ⟨ba, oa, rfl, -⟩ := Rd.at hb ap2
 have HB := qH hb
 have HC := qH hc
 have HT := qH (RdB.tail hb c ap2 hc)
 have H0 := qH h0
 have HTN := qH (i0K l h33)
 clear hb hc h33 h0
 have HDL := qH hlt
 clear hlt
 have HR := qH hr
 clear hr
 have st0 := St.start Nob w
 go_enter Tryz.func153, Tryz.ntmps153
 go_wp2_with (with_reducible refine wSk 4 ?_)
 refine a0b st0 rfl rfl (z := .agg (List.replicate 12 (.int .u64 0)).toArray) ap0 (cw 4 0 ++ (cw 4 0 ++ cw 4 0)) ap5 ?_
 intro g4 w1 st1
 clear st0
 have hne : (((33 : Nat) : Int) != 33) = false := by rfl
 go_wp2_with (with_reducible refine wSk 14 ?_)
 refine g0f rfl rfl Tryz.underlying23 e0B rfl 1 33 ⟨_, rfl⟩ rfl ap2 HC.out ?_
 rw [show (33 : Nat) - 1 = 32 from rfl]
 go_wp2_with fail
 refine (f0X _ _ l _ (HT.out.still st1.fr)).mono ?_
 rintro e' w2 ⟨rfl, hf2⟩
 have st2 := st1.keep hf2
 clear st1 hf2
 go_wp2_with (with_reducible refine wSk 6 ?_)
 refine a0b st2 rfl rfl (z := zAd) ap0 (cw 4 0) ap5 ?_
 intro g6 w3 st3
 clear st2
 go_wp2_with (with_reducible refine wSn ?_)
 refine a0c st3 1 rfl rfl rfl rfl rfl ap6 ap3 (a0f _ _) ?_
 intro w4 st4
 clear st3
 have hcell := b0A (HB.out.still st4.fr) _ H0.out
 go_wp2_with fail
 clear hcell
 go_wp2_with fail
 refine wp_region_noPanic ?_
 refine b0q (fun wx => St Nob w wx [(g4, cw 4 0 ++ (cw 4 0 ++ cw 4 0), 174), (g6, cw 4 (tlN l), 167)]) 22 (.w 0 (.w 1 (.t 2 (.w 3 (.w 4 (.w 5 (.w 6 (.t 7 (.w 8 (.w 9 (.w 10 (.t 11 (.w 12 (.w 13 (.w 14 (.t 15 (.w 16 (.w 17 (.t 18 (.r 19 (.w 20 (.w 21 (.m 22 .nil))))))))))))))))))))))) ap0 ap0 st4.drew (fun _ _ _ _ _ h => h) ?_
 have hd4 := st4.drew
 clear st4
 refine a0p rfl rfl apW ?_
 try simp only [clL]
 refine a0p rfl rfl apW ?_
 try simp only [clL]
 refine c0R (v := ?_) rfl rfl (fun wx hS => ?_) ?_
 rotate_left 1
 ·(have hc := (b0A (HB.out.still (St.fr hS)) _ H0.out); clear hS; go_simp; with_reducible rfl)
 try simp only [clL]
 refine a0p rfl rfl apW ?_
 try simp only [clL]
 refine a0p rfl rfl apW ?_
 try simp only [clL]
 refine a0p rfl rfl apW ?_
 try simp only [clL]
 refine a0p rfl rfl apW ?_
 try simp only [clL]
 refine c0R (v := ?_) rfl rfl (fun wx hS => ?_) ?_
 rotate_left 1
 ·(have hc := (b0A (HB.out.still (St.fr hS)) _ H0.out); clear hS; go_simp; with_reducible rfl)
 try simp only [clL]
 refine a0p rfl rfl apW ?_
 try simp only [clL]
 refine a0p rfl rfl apW ?_
 try simp only [clL]
 refine a0p rfl rfl apW ?_
 try simp only [clL]
 refine c0e rfl rfl rfl rfl (cw 4 (tlN l)) (fun wx hS => St.rangeL hS 1 rfl 0 _ dZl) Tryz.underlying167 rfl ap3 ?_
 try simp only [clL]
 refine a0p rfl rfl apW ?_
 try simp only [clL]
 refine a0p rfl rfl apW ?_
 try simp only [clL]
 refine a0p rfl rfl apW ?_
 try simp only [clL]
 refine c0R (v := ?_) rfl rfl (fun wx hS => ?_) ?_
 rotate_left 1
 ·(have hc := (HCV.out.keep (St.fr hS) id).cell (i := 0) rfl; clear hS; go_simp; with_reducible rfl)
 try simp only [clL]
 refine a0p rfl rfl apW ?_
 try simp only [clL]
 refine a0p rfl rfl apW ?_
 try simp only [clL]
 refine c0e rfl rfl rfl rfl (cw 4 m.M) (fun wx hS => (HPM.out.keep (St.fr hS) id).range 0 _ (j0U m)) Tryz.underlying167 rfl ap3 ?_
 try simp only [clL]
 refine e0r rfl rfl ?_
 go_simp
 refine (e0Y (tlN l) m.M _ HTN.out HOK.out.lt true HDL.out).mono ?_
 rintro e' w5 ⟨rfl, hf5⟩
 have st5 := hd4.keep hf5
 clear hf5
 clear hd4
 refine ⟨st5, ?_⟩
 try simp only [clL]
 refine a0p rfl rfl apW ?_
 try simp only [clL]
 refine a0p rfl rfl apW ?_
 try simp only [clL]
 refine e0s rfl rfl ?_
 go_simp
 try simp only [clL]
 refine d0l ?_
 refine NoPanic.normal ?_
 go_wp2_with fail
 refine wp_region_noPanic ?_
 refine a0d (fun wx => St Nob w wx [(g4, cw 4 0 ++ (cw 4 0 ++ cw 4 0), 174), (g6, cw 4 (tlN l), 167)]) 13 (.w 0 (.w 1 (.w 2 (.w 3 (.t 4 (.t 5 (.b 6 11 (.b 7 11 (.w 8 (.w 9 (.w 10 (.r 11 (.r 12 (.m 13 .nil)))))) (.r 7 (.w 8 (.w 9 (.w 10 (.r 12 (.m 13 .nil))))))) (.r 6 (.r 7 (.w 8 (.w 9 (.w 10 (.r 12 (.m 13 .nil)))))))))))))) ap0 ap0 st5.drew (fun _ _ _ _ _ h => h) ?_
 have hd5 := st5.drew
 clear st5
 refine a0a rfl rfl apW ?_
 try simp only [clL]
 refine a0a rfl rfl apW ?_
 try simp only [clL]
 refine a0a rfl rfl apW ?_
 try simp only [clL]
 refine a0a rfl rfl apW ?_
 try simp only [clL]
 refine a0L (v := ?_) rfl rfl (fun wx hS => ?_) ?_
 rotate_left 1
 ·(have hc := (HCV.out.keep (St.fr hS) id).cell (i := 0) rfl; clear hS; go_simp; with_reducible rfl)
 try simp only [clL]
 refine a0h rfl rfl rfl rfl (cw 4 (tlN l)) (fun wx hS => St.rangeL hS 1 rfl 0 _ dZl) Tryz.underlying167 rfl ap3 ?_
 try simp only [clL]
 refine e0i (C := fun g7 wz => St Nob w wz [(g4, cw 4 0 ++ (cw 4 0 ++ cw 4 0), 174), (g6, cw 4 (tlN l), 167), (g7, cw 4 (elN m (tlN l)) ++ (cw 4 (elN m (atY m.M (tlN l))) ++ cw 4 (elN m 1)), 174)]) (F := ?_) (fun key => ?_) ?_
 rotate_left 1
 ·skip
  refine c0C rfl rfl rfl rfl ?_ ?_
  ·skip
   go_simp
   refine (c0O m gp _ HOK.out (HPM.out.keep hd5.fr id) (tlN l) HTN.out).mono ?_
   rintro e' w6 ⟨rfl, hf6⟩
   have st6 := hd5.keep hf6
   clear hf6
   refine ⟨st6, ?_⟩
   try simp only [clL]
   refine c0C rfl rfl rfl rfl ?_ ?_
   ·skip
    go_simp
    refine (u0S m gc gp bx by_ _ HOK.out (HCV.out.keep st6.fr id) (HPM.out.keep st6.fr id) (tlN l) r HR.out).mono ?_
    rintro e' w7 ⟨rfl, hf7⟩
    have st7 := st6.keep hf7
    clear hf7
    refine ⟨st7, ?_⟩
    try simp only [clL]
    refine a0a rfl rfl apW ?_
    try simp only [clL]
    refine a0a rfl rfl apW ?_
    try simp only [clL]
    refine a0a rfl rfl apW ?_
    try simp only [clL]
    refine a0q rfl rfl ?_
    refine a0X st7 rfl (z := zAc) ap0 (cw 12 0) ap5 ?_
    intro g7 w8 st8
    refine ⟨St.less st8 ap4, ?_⟩
    try simp only [clL]
    refine a0q rfl rfl ?_
    refine a0i st8 2 rfl rfl rfl rfl ap6 ap3 (b0p _ _ _) ?_
    intro w9 st9
    refine ⟨St.less st9 ap4, ?_⟩
    try simp only [Act.put]
    refine a0o rfl rfl ?_
    go_simp
    try simp only [clL]
    refine a0e ?_
    exact key g7 _ st9
   ·skip
    refine a0X st6 rfl (z := zAc) ap0 (cw 12 0) ap5 ?_
    intro g7 w10 st10
    refine ⟨St.less st10 ap4, ?_⟩
    try simp only [clL]
    refine a0q rfl rfl ?_
    go_simp
    refine (u0S m gc gp bx by_ _ HOK.out (HCV.out.keep st10.fr id) (HPM.out.keep st10.fr id) (tlN l) r HR.out).mono ?_
    rintro e' w11 ⟨rfl, hf11⟩
    have st11 := st10.keep hf11
    clear hf11
    refine ⟨St.less st11 ap4, ?_⟩
    try simp only [clL]
    refine a0a rfl rfl apW ?_
    try simp only [clL]
    refine a0a rfl rfl apW ?_
    try simp only [clL]
    refine a0a rfl rfl apW ?_
    try simp only [clL]
    refine a0q rfl rfl ?_
    refine a0i st11 2 rfl rfl rfl rfl ap6 ap3 (b0p _ _ _) ?_
    intro w12 st12
    refine ⟨St.less st12 ap4, ?_⟩
    try simp only [Act.put]
    refine a0o rfl rfl ?_
    go_simp
    try simp only [clL]
    refine a0e ?_
    exact key g7 _ st12
  ·skip
   refine a0X hd5 rfl (z := zAc) ap0 (cw 12 0) ap5 ?_
   intro g7 w13 st13
   refine ⟨St.less st13 ap4, ?_⟩
   try simp only [clL]
   refine a0q rfl rfl ?_
   go_simp
   refine (c0O m gp _ HOK.out (HPM.out.keep st13.fr id) (tlN l) HTN.out).mono ?_
   rintro e' w14 ⟨rfl, hf14⟩
   have st14 := st13.keep hf14
   clear hf14
   refine ⟨St.less st14 ap4, ?_⟩
   try simp only [clL]
   refine a0q rfl rfl ?_
   go_simp
   refine (u0S m gc gp bx by_ _ HOK.out (HCV.out.keep st14.fr id) (HPM.out.keep st14.fr id) (tlN l) r HR.out).mono ?_
   rintro e' w15 ⟨rfl, hf15⟩
   have st15 := st14.keep hf15
   clear hf15
   refine ⟨St.less st15 ap4, ?_⟩
   try simp only [clL]
   refine a0a rfl rfl apW ?_
   try simp only [clL]
   refine a0a rfl rfl apW ?_
   try simp only [clL]
   refine a0a rfl rfl apW ?_
   try simp only [clL]
   refine a0q rfl rfl ?_
   refine a0i st15 2 rfl rfl rfl rfl ap6 ap3 (b0p _ _ _) ?_
   intro w16 st16
   refine ⟨St.less st16 ap4, ?_⟩
   try simp only [Act.put]
   refine a0o rfl rfl ?_
   go_simp
   try simp only [clL]
   refine a0e ?_
   exact key g7 _ st16
 intro g7 w17 st17
 have st17 : St Nob w w17 [(g4, cw 4 0 ++ (cw 4 0 ++ cw 4 0), 174), (g6, cw 4 (tlN l), 167), (g7, cw 4 (elN m (tlN l)) ++ (cw 4 (elN m (atY m.M (tlN l))) ++ cw 4 (elN m 1)), 174)] := st17
 clear hd5
 refine NoPanic.normal ?_
 have hcell := b0A (HB.out.still st17.fr) _ H0.out
 go_wp2_with (with_reducible refine wSk 65 ?_)
 refine a0s st17 2 rfl rfl rfl Tryz.underlying174 rfl rfl ap3 ?_
 clear hcell
 go_wp2_with fail
 refine (o0P m gc gp bx by_ _ HOK.out (HCV.out.keep st17.fr id) (HPM.out.keep st17.fr id) (tlN l) (atY m.M (tlN l)) 1).mono ?_
 rintro e' w18 ⟨rfl, hf18⟩
 have st18 := st17.keep hf18
 clear st17 hf18
 go_wp2_with (with_reducible refine wSn ?_)
 refine a0c st18 2 rfl rfl rfl rfl rfl ap6 ap3 (b0p _ _ _) ?_
 intro w19 st19
 clear st18
 go_wp2_with (with_reducible refine wSk 67 ?_)
 refine a0s st19 2 rfl rfl rfl Tryz.underlying174 rfl rfl ap3 ?_
 go_wp2_with (with_reducible refine wSn ?_)
 refine a0c st19 0 rfl rfl rfl rfl rfl ap6 ap3 (b0p _ _ _) ?_
 intro w20 st20
 clear st19
 have hr := st20.at 0 rfl
 have hfr := st20.fr
 clear st20
 go_wp2_with fail
 exact bodyPost_ret (b0i rfl rfl hr Tryz.underlying174 rfl ap3 rfl) rfl ⟨by unfold ptV ptL; rfl, hfr⟩
end
section
open Go.RowKit Go.Mv Mvp Mvq
theorem j0A (l : List UInt8) (h : l.length = 33) (b : UInt8) (hb : l.getD 0 0 = b) : (bs l)[0]? = some (.int .u8 (b.toNat : Int)) := by
 cases l with
 | nil => cases h
 | cons x t =>
  have : x = b := by simpa using hb
  subst this
  rfl
theorem w0G {b : UInt8} {k : Nat} (h : b.toNat = k) : b = UInt8.ofNat k := by rw [← h]; simp
theorem j0B (l : List UInt8) (h : l.length = 33) (hb : l.getD 0 0 = 2) : (bs l)[0]? = some (.int .u8 2) := by rw [j0A l h 2 hb]; rfl
theorem j0C (l : List UInt8) (h : l.length = 33) (hb : l.getD 0 0 = 3) : (bs l)[0]? = some (.int .u8 3) := by rw [j0A l h 3 hb]; rfl
theorem n0A (l : List UInt8) (h : l.length = 33) (hb : l.getD 0 0 = 0) : (bs l)[0]? = some (.int .u8 0) := by rw [j0A l h 0 hb]; rfl
theorem r0n (b : Nat) : kc (mP.M - b % mP.M) = - kc b := by rw [d0b]; exact q0L b
theorem A0I (n : Nat) (hr : b0J mP.M (e0f n) = true) : kc (atY mP.M n) = kc (rtV fP (e0f n)) := by unfold atY; rw [if_pos hr, d0b]
theorem u0T (x y : Nat) (h : onC (.A (kc x) (kc y))) : (n0s x y h).L = ptL mP x y 1 := rfl
attribute [local irreducible] atY rtV b0J ptL e0f tlN n0s
theorem m0v (l : List UInt8) (h : b0s l = true) : ∃ t : PT, t.pt = c0Q l ∧ ∀ (gc : Nat) (a : Option Addr) (n c : Nat) (w : World), Cv w gc → RdB w a n l → n ≤ c →
  Calls Tryz.prog 153 #[.pointer (some ⟨gc, 0, none⟩), .slice a n c] w fun e w' => e = .returned (.tuple #[.agg t.L.toArray, .bool true]) ∧ Fr Nob w w' := by
 have hon := y0G h
 unfold b0s at h
 unfold c0Q at *
 simp only [Bool.and_eq_true, decide_eq_true_eq] at h
 obtain ⟨h33, h⟩ := h
 by_cases h0 : l.getD 0 0 = 0
 ·rw [if_pos h0] at h
  refine ⟨noT, by rw [if_pos h0, q0V], ?_⟩
  rintro gc a n c w ⟨gp, h1, h2⟩ hb hc
  exact k0V mP gc gp gXn gYn w c0N h1 h2 a n c l hb hc h33 (n0A l h33 h0) true h
 ·rw [if_neg h0] at h hon
  simp only [Bool.and_eq_true, decide_eq_true_eq] at h
  obtain ⟨h23, hlt, hr⟩ := h
  rw [← d0b] at hlt hr
  have hy := A0I _ hr
  rcases h23 with h2 | h3
  ·have h3 : ¬ l.getD 0 0 = 3 := by rw [h2]; decide
   rw [if_neg h3, ← hy] at hon
   refine ⟨n0s (tlN l) (atY mP.M (tlN l)) hon, ?_, ?_⟩
   ·rw [q0W, if_neg h0, if_neg h3, hy]
   ·rintro gc a n c w ⟨gp, g1, g2⟩ hb hc
    rw [u0T]
    exact n0y mP gc gp gXn gYn w c0N g1 g2 a n c l hb hc h33 (j0B l h33 h2) (decide_eq_true hlt) true hr
  ·rw [if_pos h3, ← hy, ← r0n] at hon
   refine ⟨n0s (tlN l) (mP.M - atY mP.M (tlN l) % mP.M) hon, ?_, ?_⟩
   ·rw [q0W, if_neg h0, if_pos h3, r0n, hy]
   ·rintro gc a n c w ⟨gp, g1, g2⟩ hb hc
    rw [u0T]
    exact n0z mP gc gp gXn gYn w c0N g1 g2 a n c l hb hc h33 (j0C l h33 h3) (decide_eq_true hlt) true hr
open Classical in
noncomputable def rdT (l : List UInt8) : PT := if h : b0s l = true then Classical.choose (m0v l h) else noT
theorem y0M {l : List UInt8} (h : b0s l = true) : (rdT l).pt = c0Q l := by unfold rdT; rw [dif_pos h]; exact (Classical.choose_spec (m0v l h)).1
theorem r0o (l : List UInt8) (h : b0s l = true) (gc : Nat) (a : Option Addr) (n c : Nat) (w : World) (hcv : Cv w gc) (hb : RdB w a n l) (hc : n ≤ c) :
  Calls Tryz.prog 153 #[.pointer (some ⟨gc, 0, none⟩), .slice a n c] w fun e w' => e = .returned (.tuple #[.agg (rdT l).L.toArray, .bool true]) ∧ Fr Nob w w' := by
 unfold rdT; rw [dif_pos h]; exact (Classical.choose_spec (m0v l h)).2 gc a n c w hcv hb hc
theorem u0U (l : List UInt8) (h : b0s l = false) (gc : Nat) (a : Option Addr) (n c : Nat) (w : World) (hcv : Cv w gc) (hb : RdB w a n l) (hc : n ≤ c) :
  Calls Tryz.prog 153 #[.pointer (some ⟨gc, 0, none⟩), .slice a n c] w fun e w' => (∃ X Y Z, e = .returned (.tuple #[.agg (ptL mP X Y Z).toArray, .bool false])) ∧ Fr Nob w w' := by
 obtain ⟨gp, g1, g2⟩ := hcv
 unfold b0s at h
 by_cases h33 : l.length = 33
 ·rw [decide_eq_true h33, Bool.true_and] at h
  by_cases h0 : l.getD 0 0 = 0
  ·rw [if_pos h0] at h
   exact (k0V mP gc gp gXn gYn w c0N g1 g2 a n c l hb hc h33 (n0A l h33 h0) false h).mono fun _ _ t => ⟨⟨_, _, _, t.1⟩, t.2⟩
  ·rw [if_neg h0] at h
   by_cases h2 : l.getD 0 0 = 2
   ·rw [decide_eq_true (Or.inl h2), Bool.true_and] at h
    cases hlt : decide (tlN l < mP.M) with
    | false => exact (t0u mP gc gp gXn gYn w c0N g1 g2 a n c l hb hc h33 (j0B l h33 h2) hlt).mono fun _ _ t => ⟨⟨_, _, _, t.1⟩, t.2⟩
    | true =>
     rw [← d0b, hlt, Bool.true_and] at h
     exact (n0y mP gc gp gXn gYn w c0N g1 g2 a n c l hb hc h33 (j0B l h33 h2) hlt false h).mono fun _ _ t => ⟨⟨_, _, _, t.1⟩, t.2⟩
   ·by_cases h3 : l.getD 0 0 = 3
    ·rw [decide_eq_true (Or.inr h3), Bool.true_and] at h
     cases hlt : decide (tlN l < mP.M) with
     | false => exact (t0v mP gc gp gXn gYn w c0N g1 g2 a n c l hb hc h33 (j0C l h33 h3) hlt).mono fun _ _ t => ⟨⟨_, _, _, t.1⟩, t.2⟩
     | true =>
      rw [← d0b, hlt, Bool.true_and] at h
      exact (n0z mP gc gp gXn gYn w c0N g1 g2 a n c l hb hc h33 (j0C l h33 h3) hlt false h).mono fun _ _ t => ⟨⟨_, _, _, t.1⟩, t.2⟩
    ·have q0 : (((l.getD 0 0).toNat : Int) == 0) = false := by
      simp only [beq_eq_false_iff_ne, ne_eq]
      intro e
      exact h0 (w0G (k := 0) ap1)
     have q2 : (((l.getD 0 0).toNat : Int) != 2) = true := by
      simp only [bne_iff_ne, ne_eq]
      intro e
      exact h2 (w0G (k := 2) ap1)
     have q3 : (((l.getD 0 0).toNat : Int) != 3) = true := by
      simp only [bne_iff_ne, ne_eq]
      intro e
      exact h3 (w0G (k := 3) ap1)
     exact (t0t mP gc gp gXn gYn w c0N g1 g2 a n c l hb hc h33 _ (j0A l h33 _ rfl) q0 q2 q3).mono fun _ _ t => ⟨⟨_, _, _, t.1⟩, t.2⟩
 ·exact (t0s mP gc gp gXn gYn w c0N g1 g2 a n c l hb hc h33).mono fun _ _ t => ⟨⟨_, _, _, t.1⟩, t.2⟩
theorem y0N (z : Nat) : kc (z ^ (mP.M - 2)) = c0B (kc z) := by
 rw [show mP.M - 2 = fP - 2 by rw [d0b]]
 unfold c0B
 rw [e0z]
 generalize fP - 2 = n
 rw [← e0M (z ^ n), ← e0M ((z % fP) ^ n), ← Nat.pow_mod]
theorem y0O (x y : K) : c0m (.A x y) = UInt8.ofNat (2 + y.val % 2) :: b0b x.val := rfl
theorem r0p (s : PT) (gc : Nat) (w : World) (hcv : Cv w gc) :
  Calls Tryz.prog 109 #[.pointer (some ⟨gc, 0, none⟩), .agg s.L.toArray] w fun e w' => ∃ sv, e = .returned sv ∧ Own w' w.heap.size 5 1 sv 33 (bs (c0m s.pt)) ∧ Fr Nob w w' := by
 obtain ⟨gp, g1, g2⟩ := hcv
 cases hz : s.isO with
 | true =>
  rw [PT.isO_t hz]
  exact o0O mP gc gp gXn gYn w c0N g1 g2 s.x s.y s.z hz
 | false =>
  have hne := PT.isO_f hz
  have e : s.pt = .A (kc (s.x * (s.z ^ (mP.M - 2) * s.z ^ (mP.M - 2)))) (kc (s.y * (s.z ^ (mP.M - 2) * s.z ^ (mP.M - 2) * s.z ^ (mP.M - 2)))) := by
   show jk _ _ _ = _
   rw [t0d hne]
   simp only [a0A, y0N]
  rw [e]
  have hb := w0F mP gc gp gXn gYn w c0N g1 g2 s.x s.y s.z hz _ _ _ _ _ _ _ rfl rfl rfl rfl rfl rfl rfl
  refine hb.mono ?_
  rintro e' w' ⟨sv, h1, h2, h3⟩
  refine ⟨sv, h1, ?_, h3⟩
  rw [y0O, e0z, e0z, ← d0b]
  exact h2
end
section
open Go.RowKit Go.Mv Mvp Mvq
def c0z (ls : List (List UInt8)) : Bool := ls.all b0s
noncomputable def g0u (ls : List (List UInt8)) : List Value := ls.flatMap fun l => (rdT l).L
theorem r0q (m : Md) (x y z : Nat) : ∀ v ∈ ptL m x y z, v.oneCell' = true := b0p _ _ _
theorem k0W (ls : List (List UInt8)) (l : List UInt8) : g0u (ls ++ [l]) = g0u ls ++ (rdT l).L := by simp [g0u]
theorem w0H (ls : List (List UInt8)) (i : Nat) (h : i < ls.length) : ((g0u ls).drop (i * 12)).take (rdT (ls.getD i [])).L.length = (rdT (ls.getD i [])).L := by
 rw [PT.len]
 induction ls generalizing i with
 | nil => simp at h
 | cons l ls ih =>
  rw [g0u, List.flatMap_cons, ← g0u]
  cases i with
  | zero =>
   rw [Nat.zero_mul, List.drop_zero, List.take_append_of_le_length (by rw [PT.len]; exact Nat.le_refl _), List.take_of_length_le (by rw [PT.len]; exact Nat.le_refl _)]
   rfl
  | succ i =>
   rw [List.drop_append, PT.len, List.drop_of_length_le (by rw [PT.len]; omega), List.nil_append, show (i + 1) * 12 - 12 = i * 12 by omega, ih i (by simpa using h)]
   rfl
theorem k0X (ls : List (List UInt8)) (k : Nat) (h : k < ls.length) : c0z (ls.take (k + 1)) = (c0z (ls.take k) && b0s (ls.getD k [])) := by
 rw [List.take_succ_eq_append_getElem h, c0z, List.all_append, ← c0z]
 simp [List.getD_eq_getElem?_getD, h]
theorem n0B (ls : List (List UInt8)) (k : Nat) (h : k < ls.length) (hb : b0s (ls.getD k []) = false) : c0z ls = false := by
 rw [c0z, List.all_eq_false]
 refine ⟨ls.getD k [], ?_, by simpa using hb⟩
 rw [List.getD_eq_getElem?_getD, List.getElem?_eq_getElem h]
 exact List.getElem_mem h
theorem j0D : (Tryz.prog.info? 174).map (fun i => (i.zero, i.size, i.bytes)) = some (some (.agg (List.replicate 12 (.int .u64 0)).toArray), 12, 96) := by kernel_rfl
attribute [local irreducible] a0v lw mix cw b0e b0f b0a beN b0l b0b a0z a0F elN mdL b0m rtN rtV b0J gXn gYn PT.L j0V j0x e0G tbL tmR tmL dbN g0G g0q j0W dig rdT b0s c0Q ptL g0u c0z c0m
end
section
open Go.RowKit Go.Mv Mvp Mvq
attribute [local irreducible] a0v lw mix cw b0e b0f b0a beN b0l b0b a0z a0F elN mdL b0m rtN rtV b0J gXn gYn PT.L j0V j0x e0G tbL tmR tmL dbN g0G g0q j0W dig rdT b0s c0Q ptL g0u c0z c0m
theorem _root_.ap10 {p : Prop} (h : p := by first | (rw [a0g]; kernel_rfl) | (rw [PT.len]; kernel_rfl) | (rw [e0p]; kernel_rfl) | (simp only [List.length_append, a0g]; kernel_rfl) | (simp only [List.length_append, a0g, PT.len, e0p]; kernel_rfl)) : p := h
theorem _root_.ap12 {p : Prop} (h : p := by first | (simp only [a0g]; done) | (simp only [List.length_append, a0g, PT.len, e0p]; done)) : p := h
theorem o0Q (m : Md) (hk : KindOf 1 m) (a : Option Addr) (n c : Nat) (l : List UInt8) (w : World) (hb : RdB w a n l) (h32 : l.length ≠ 32) :
  Calls Tryz.prog 107 #[.slice a n c] w fun e w' => e = .returned (.tuple #[i4 0, .bool false]) ∧ Fr Nob w w' := by
 have HK := qH hk
 have HOK := qH hk.ok
 clear hk
 have hne : ((n : Int) != 32) = true := by have := hb.len; simp; omega
 clear h32 hb
 have st0 := St.start Nob w
 go_enter Tryz.func107, Tryz.ntmps107
 go_wp2_with (with_reducible refine wSk 2 ?_)
 refine a0b st0 rfl rfl (z := zAd) ap0 (cw 4 0) ap5 ?_
 intro g2 w1 st1
 clear st0
 go_wp2_with (with_reducible refine wSk 10 ?_)
 refine c0r rfl rfl _ n0w ?_
 rw [n0x]
 go_wp2_with (with_reducible refine wSn ?_)
 refine a0c st1 0 rfl rfl rfl rfl rfl ap12 ap10 (a0f _ _) ?_
 intro w2 st2
 clear st1
 have hr := st2.at 0 rfl
 have hfr := st2.fr
 clear st2
 go_wp2_with fail
 exact bodyPost_ret (b0O rfl rfl hr Tryz.underlying167 ap10 rfl) rfl ⟨rfl, hfr⟩
theorem i0L (m : Md) (hk : KindOf 1 m) (a : Option Addr) (n c : Nat) (l : List UInt8) (w : World) (hb : RdB w a n l) (h32 : l.length = 32) (r : Bool) (hlt : decide (beN l < m.M) = r) :
  Calls Tryz.prog 107 #[.slice a n c] w fun e w' => e = .returned (.tuple #[i4 (beN l), .bool r]) ∧ Fr Nob w w' := by
 have HK := qH hk
 have HOK := qH hk.ok
 clear hk
 have hbl := e0w l ap1
 have HBL := qH hbl
 have h32' : n = 32 := by have := hb.len; omega
 subst h32'
 have HB := qH hb
 have HLT := qH hlt
 have hne : (((32 : Nat) : Int) != 32) = false := by rfl
 clear hb hbl h32 hlt
 have st0 := St.start Nob w
 go_enter Tryz.func107, Tryz.ntmps107
 go_wp2_with (with_reducible refine wSk 2 ?_)
 refine a0b st0 rfl rfl (z := zAd) ap0 (cw 4 0) ap5 ?_
 intro g2 w1 st1
 clear st0
 go_wp2_with fail
 refine (OfK HK.out _).mono ?_
 rintro e' w2 ⟨gp, rfl, hle, hm, hf2⟩
 have st2 : St Nob w w2 [(g2, cw 4 0, 167), (gp, mdL m, 234)] := st1.new hf2 hm hle
 clear st1 hf2 hm hle
 go_wp2_with fail
 refine (b0T a 32 c l _ (HB.out.still st2.fr) ap2).mono ?_
 rintro e' w3 ⟨rfl, hf3⟩
 have st3 := st2.keep hf3
 clear st2 hf3
 go_wp2_with (with_reducible refine wSk 6 ?_)
 refine a0b st3 rfl rfl (z := zAd) ap0 (cw 4 0) ap5 ?_
 intro g6 w4 st4
 clear st3
 go_wp2_with (with_reducible refine wSn ?_)
 refine a0c st4 2 rfl rfl rfl rfl rfl ap12 ap10 (a0f _ _) ?_
 intro w5 st5
 clear st4
 go_wp2_with fail
 refine wp_region_noPanic ?_
 refine a0d (fun wx => St Nob w wx [(g2, cw 4 0, 167), (gp, mdL m, 234), (g6, cw 4 (beN l), 167)]) 7 (.t 0 (.t 1 (.w 2 (.w 3 (.w 4 (.t 5 (.r 6 (.m 7 (.w 8 .nil))))))))) ap0 ap0 st5.drew (fun _ _ _ _ _ h => h) ?_
 have hd5 := st5.drew
 clear st5
 refine a0h rfl rfl rfl rfl (cw 4 (beN l)) (fun wx hS => St.rangeL hS 2 rfl 0 _ dZl) Tryz.underlying167 rfl ap10 ?_
 try simp only [clL]
 refine a0h rfl rfl rfl rfl (cw 4 (beN l)) (fun wx hS => St.rangeL hS 2 rfl 0 _ dZl) Tryz.underlying167 rfl ap10 ?_
 try simp only [clL]
 refine a0a rfl rfl apW ?_
 try simp only [clL]
 refine a0a rfl rfl apW ?_
 try simp only [clL]
 refine a0a rfl rfl apW ?_
 try simp only [clL]
 refine a0h rfl rfl rfl rfl (cw 4 m.M) (fun wx hS => St.rangeL hS 1 rfl 0 _ (j0U m)) Tryz.underlying167 rfl ap10 ?_
 try simp only [clL]
 refine a0q rfl rfl ?_
 go_simp
 refine (e0Y (beN l) m.M _ HBL.out HOK.out.lt r HLT.out).mono ?_
 rintro e' w6 ⟨rfl, hf6⟩
 have st6 := hd5.keep hf6
 clear hf6
 clear hd5
 refine ⟨st6, ?_⟩
 try simp only [clL]
 refine a0o rfl rfl ?_
 refine a0i st6 0 rfl rfl rfl rfl ap12 ap10 (a0f _ _) ?_
 intro w7 st7
 clear st6
 try simp only [Act.put]
 refine a0a rfl rfl apW ?_
 try simp only [clL]
 refine a0e ?_
 refine NoPanic.normal ?_
 have hr := st7.at 0 rfl
 have hfr := st7.fr
 clear st7
 go_wp2_with fail
 exact bodyPost_ret (b0O rfl rfl hr Tryz.underlying167 ap10 rfl) rfl ⟨rfl, hfr⟩
theorem j0E {l : List UInt8} (h : b0m mQ l = true) (a : Option Addr) (n c : Nat) (w : World) (hb : RdB w a n l) : Calls Tryz.prog 107 #[.slice a n c] w fun e w' => e = .returned (.tuple #[i4 (beN l), .bool true]) ∧ Fr Nob w w' := by
 unfold b0m at h
 simp only [Bool.and_eq_true, decide_eq_true_eq] at h
 exact i0L mQ .one a n c l w hb h.1 true (decide_eq_true h.2)
theorem t0w {l : List UInt8} (h : b0m mQ l = false) (a : Option Addr) (n c : Nat) (w : World) (hb : RdB w a n l) : Calls Tryz.prog 107 #[.slice a n c] w fun e w' => (∃ N, e = .returned (.tuple #[i4 N, .bool false])) ∧ Fr Nob w w' := by
 unfold b0m at h
 by_cases h32 : l.length = 32
 ·rw [decide_eq_true h32, Bool.true_and] at h
  exact (i0L mQ .one a n c l w hb h32 false h).mono fun _ _ t => ⟨⟨_, t.1⟩, t.2⟩
 ·exact (o0Q mQ .one a n c l w hb h32).mono fun _ _ t => ⟨⟨_, t.1⟩, t.2⟩
end
section
open Go.RowKit Go.Mv Mvp Mvq
theorem o0R {gp : Nat} : ((d0v mP gp gXn gYn).drop 5).take q0X.L.length = q0X.L := s0T mP gp gXn gYn
attribute [local irreducible] a0v lw mix cw b0e b0f b0a beN b0l b0b a0z a0F elN mdL b0m rtN rtV b0J gXn gYn PT.L j0V j0x e0G tbL tmR tmL dbN g0G g0q j0W dig rdT b0s c0Q ptL g0u c0z c0m
theorem m0w (va : Value) (l : List UInt8) (w : World) (hpa : BPart w va l) (hk : b0s l = true) :
  Calls Tryz.prog 62 #[va] w fun e w' => e = .returned (.bool true) ∧ Fr Nob w w' := by
 obtain ⟨a, n, c, rfl, hcc, hrd⟩ := hpa
 have HCC := qH hcc
 have HRD := qH hrd
 have HK := qH hk
 clear hcc hrd hk
 have st0 := St.start Nob w
 go_enter Tryz.func62, Tryz.ntmps62
 go_wp2_with fail
 refine (f0B _).mono ?_
 rintro e' w1 ⟨gc, rfl, hle, hcv, hf1⟩
 have st1 := st0.keep hf1
 have HCV := qH hcv
 clear hcv hle
 clear st0 hf1
 go_wp2_with fail
 refine (r0o l HK.out gc a n c _ HCV.out (HRD.out.still st1.fr) HCC.out).mono ?_
 rintro e' w2 ⟨rfl, hf2⟩
 have st2 := st1.keep hf2
 clear st1 hf2
 go_wp2_with (with_reducible refine wSk 3 ?_)
 refine a0b st2 rfl rfl (z := .agg (List.replicate 12 (.int .u64 0)).toArray) ap0 (cw 12 0) ap5 ?_
 intro g3 w3 st3
 clear st2
 go_wp2_with (with_reducible refine wSn ?_)
 refine a0c st3 0 rfl rfl rfl rfl rfl ap12 ap11 (PT.one _) ?_
 intro w4 st4
 clear st3
 have hfr := st4.fr
 clear st4
 go_wp2_with fail
 go_ret
 exact ⟨rfl, hfr⟩
theorem k0Y (va : Value) (l : List UInt8) (w : World) (hpa : BPart w va l) (hk : b0s l = false) :
  Calls Tryz.prog 62 #[va] w fun e w' => e = .returned (.bool false) ∧ Fr Nob w w' := by
 obtain ⟨a, n, c, rfl, hcc, hrd⟩ := hpa
 have HCC := qH hcc
 have HRD := qH hrd
 have HK := qH hk
 clear hcc hrd hk
 have st0 := St.start Nob w
 go_enter Tryz.func62, Tryz.ntmps62
 go_wp2_with fail
 refine (f0B _).mono ?_
 rintro e' w1 ⟨gc, rfl, hle, hcv, hf1⟩
 have st1 := st0.keep hf1
 have HCV := qH hcv
 clear hcv hle
 clear st0 hf1
 go_wp2_with fail
 refine (u0U l HK.out gc a n c _ HCV.out (HRD.out.still st1.fr) HCC.out).mono ?_
 rintro e' w2 ⟨⟨X, Y, Z, rfl⟩, hf2⟩
 have st2 := st1.keep hf2
 clear st1 hf2
 go_wp2_with (with_reducible refine wSk 3 ?_)
 refine a0b st2 rfl rfl (z := .agg (List.replicate 12 (.int .u64 0)).toArray) ap0 (cw 12 0) ap5 ?_
 intro g3 w3 st3
 clear st2
 go_wp2_with (with_reducible refine wSn ?_)
 refine a0c st3 0 rfl rfl rfl rfl rfl ap12 (by first | (rw [a0g]; kernel_rfl) | (simp only [e0p]; kernel_rfl)) (r0q _ _ _ _) ?_
 intro w4 st4
 clear st3
 have hfr := st4.fr
 clear st4
 go_wp2_with fail
 go_ret
 exact ⟨rfl, hfr⟩
theorem g0I (va : Value) (l : List UInt8) (w : World) (hpa : BPart w va l) : Calls Tryz.prog 62 #[va] w fun e w' => e = .returned (.bool (b0s l)) ∧ Fr Nob w w' := by
 cases h : b0s l
 ·exact k0Y va l w hpa h
 ·exact m0w va l w hpa h
end
end Go.Proofs.YtpfimiajoifjaaaGreat
namespace Mvq
theorem k0Z : ∀ (l : List (Nat × Pt)) (n : Nat) (p : Pt), (∀ t ∈ l, onC t.2) → onC p → e0F (l ++ [(n, p)]) = a0V (e0F l) (a0R n p)
 | [], n, p, _, _ => by show a0V (a0R n p) .O = a0V .O (a0R n p); rw [b0P]; rfl
 | (k, q) :: l, n, p, h, hp => by
  have hl : ∀ t ∈ l, onC t.2 := fun t ht => h t (List.mem_cons_of_mem _ ht)
  show a0V (a0R k q) (e0F (l ++ [(n, p)])) = a0V (a0V (a0R k q) (e0F l)) (a0R n p)
  rw [k0Z l n p hl hp, a0Q (a0N (h (k, q) ap4) k) (e0X l hl) (a0N hp n)]
end Mvq
namespace Go.Proofs.YtpfimiajoifjaaaGreat
open Go.RowKit Go.Mv Mvp Mvq
noncomputable def l0A (l : List (Nat × PT)) : List (Nat × Pt) := l.map fun t => (t.1, t.2.pt)
theorem r0r (l : List (Nat × PT)) : ∀ t ∈ l0A l, onC t.2 := by
 intro t ht
 obtain ⟨u, _, rfl⟩ := List.mem_map.1 ht
 exact u.2.onP
theorem r0s (l : List (Nat × PT)) (i : Nat) (o : PT) : ∀ k, k ≤ l.length → (g0G l i o k).pt = a0V o.pt (e0F ((l0A (l.take k)).map fun t => (dig (63 - i) t.1, t.2)))
 | 0, _ => by show o.pt = a0V o.pt .O; rw [b0P]
 | k + 1, h => by
  have ih := r0s l i o k ap1
  have hk : k < l.length := by omega
  have e : l.take (k + 1) = l.take k ++ [g0p l k] := by
   rw [List.take_succ_eq_append_getElem hk]
   simp [g0p, List.getD_eq_getElem?_getD, hk]
  have hon : ∀ t ∈ (l0A (l.take k)).map (fun t => (dig (63 - i) t.1, t.2)), onC t.2 := by
   intro t ht
   obtain ⟨u, hu, rfl⟩ := List.mem_map.1 ht
   exact r0r _ u hu
  rw [e, l0A, List.map_append, List.map_append, ← l0A]
  show (j0V (g0G l i o k) (e0G (g0p l k).2 (dig (63 - i) (g0p l k).1))).pt = a0V o.pt (e0F ((l0A (l.take k)).map (fun t => (dig (63 - i) t.1, t.2)) ++ [(dig (63 - i) (g0p l k).1, (g0p l k).2.pt)]))
  rw [q0T, q0Z, ih, k0Z _ _ _ hon (g0p l k).2.onP, a0Q o.onP (e0X _ hon) (a0N (g0p l k).2.onP _)]
theorem r0t (l : List (Nat × PT)) (hn : ∀ t ∈ l, t.1 < 16 ^ 64) : ∀ i, i ≤ 64 → (g0q l i).pt = e0F (p0n (64 - i) (l0A l))
 | 0, _ => by
  show noT.pt = _
  rw [q0V]
  have : ∀ l : List (Nat × PT), (∀ t ∈ l, t.1 < 16 ^ 64) → e0F (p0n 64 (l0A l)) = .O := by
   intro l
   induction l with
   | nil => intro _; rfl
   | cons t l ih =>
    intro h
    show a0V (a0R (t.1 / 16 ^ 64) t.2.pt) (e0F (p0n 64 (l0A l))) = .O
    rw [Nat.div_eq_of_lt (h t ap4), ih fun u hu => h u (List.mem_cons_of_mem _ hu)]
    rfl
  exact (this l hn).symm
 | i + 1, h => by
  have ih := r0t l hn i ap1
  show (g0G l i (dbN (g0q l i) 4) l.length).pt = _
  rw [r0s l i _ l.length (Nat.le_refl _), y0J _ rfl, ih, List.take_of_length_le (Nat.le_refl _)]
  have := k0P (63 - i) (l0A l) (r0r l)
  rw [show 63 - i + 1 = 64 - i by omega] at this
  rw [show 64 - (i + 1) = 63 - i by omega]
  exact this.symm
theorem w0I (l : List (Nat × PT)) (hn : ∀ t ∈ l, t.1 < 16 ^ 64) : (j0W l).pt = e0F (l0A l) := by
 have h := r0t l hn 64 (Nat.le_refl _)
 rw [Nat.sub_self] at h
 have e : p0n 0 (l0A l) = l0A l := by
  unfold p0n
  conv => rhs; rw [← List.map_id (l0A l)]
  refine List.map_congr_left fun t _ => ?_
  show (t.1 / 16 ^ 0, t.2) = t
  rw [Nat.pow_zero, Nat.div_one]
 rw [e] at h
 exact h
theorem Own.part {w : World} {base : Nat} {v : Value} {l : List UInt8} (h : Own w base 5 1 v l.length (bs l)) : BPart w v l := by
 obtain ⟨a, c, rfl, hc, hr, -⟩ := h.form
 exact ⟨a, _, c, rfl, hc, by rwa [Nat.mul_one] at hr⟩
def OwnB1 (w w' : World) (v : Value) (l : List UInt8) : Prop := Own w' w.heap.size 5 1 v l.length (bs l)
theorem OwnB1.part {w w' : World} {v : Value} {l : List UInt8} (h : OwnB1 w w' v l) : BPart w' v l := Own.part h
theorem OwnB1.nil (w w' : World) : OwnB1 w w' (.slice none 0 0) [] := Own.nil _ _ _ _
theorem OwnB1.of {w w' : World} {v : Value} {l : List UInt8} {n : Nat} (h : Own w' w.heap.size 5 1 v n (bs l)) (hn : l.length = n) : OwnB1 w w' v l := by subst hn; exact h
theorem q16 : mQ.M < 16 ^ 64 := by decide
noncomputable def tS (lk la : List UInt8) : List UInt8 := if b0m mQ lk && b0s la then c0m (a0R (beN lk) (c0Q la)) else []
def tC (lk la : List UInt8) : Int := if b0m mQ lk then (if b0s la then 0 else 4) else 3
theorem t0x {l : List UInt8} (h : b0m mQ l = true) : beN l < mQ.M := by
 unfold b0m at h
 simp only [Bool.and_eq_true, decide_eq_true_eq] at h
 exact h.2
end Go.Proofs.YtpfimiajoifjaaaGreat
namespace Mvp
theorem beN_cons (x : UInt8) (l : List UInt8) : beN (x :: l) = x.toNat * 256 ^ l.length + beN l := by
 have := i0x [x] l
 simpa [beN] using this
end Mvp
namespace Go.Proofs.YtpfimiajoifjaaaGreat
open Go.RowKit Go.Mv Mvp Mvq
def PtB (w : World) (a : Option Addr) (c : Nat) (p : Pt) : Prop := BPart w (.slice a 33 c) (c0m p)
theorem PtB.still {w w' : World} {a : Option Addr} {c : Nat} {p : Pt} (h : PtB w a c p) (hf : Fr Nob w w') : PtB w' a c p := BPart.still h hf
theorem PtB.of {w w' : World} {v : Value} {p : Pt} (h : OwnB1 w w' v (c0m p)) : ∃ a c, v = .slice a 33 c ∧ PtB w' a c p := by
 obtain ⟨a, n, c, rfl, hc, hr⟩ := h.part
 have : n = 33 := by have := hr.len; rw [f0z] at this; exact this.symm
 subst this
 exact ⟨a, c, rfl, a, 33, c, rfl, hc, hr⟩
end Go.Proofs.YtpfimiajoifjaaaGreat
namespace Mvq
open Mvp
def frc {α : Type} (n : Nat) (f : Nat → α) : α := Nat.rec (f 0) (fun k _ => f (k + 1)) n
theorem y0P {α : Type} (n : Nat) (f : Nat → α) : frc n f = f n := by cases n <;> rfl
def hX : Nat := 0x79BE667EF9DCBBAC55A06295CE870B07029BFCDB2DCE28D959F2815B16F81798
def hY : Nat := 0x483ADA7726A3C4655DA4FBFC0E1108A8FD17B448A68554199C47D08FFB10D4B8
def hP : Pt := .A (kc hX) (kc hY)
theorem b0W : onC hP := by
 show kc hY * kc hY = kc hX * kc hX * kc hX + 7
 decide
abbrev qN : Nat := 115792089237316195423570985008687907852837564279074904382605163141518161494337
theorem A0n : qN = pQ := by decide
def i0M (e : Nat) : Nat → Nat → Nat → Nat → Bool
 | 0, X, Y, Z => !(Z % fP == 0) && X % fP == hX * Z % fP && (Y + hY * Z) % fP == 0
 | k + 1, X, Y, Z =>
  !(Z % fP == 0) &&
  frc (3 * (X * X) % fP) fun d => frc (2 * Y * Z % fP) fun u => frc (u * u % fP) fun uu => frc (uu * u % fP) fun uuu => frc ((d * d * Z + (fP - 2 * X * uu % fP)) % fP) fun t =>
  frc (u * t % fP) fun X' => frc ((d * (X * uu + (fP - t % fP)) + (fP - Y * uuu % fP)) % fP) fun Y' => frc (uuu * Z % fP) fun Z' =>
  if e / 2 ^ k % 2 = 1 then
   !(Z' % fP == 0) && 
   frc ((hY * Z' + (fP - Y' % fP)) % fP) fun d => frc ((hX * Z' + (fP - X' % fP)) % fP) fun u => !(u % fP == 0) && frc (u * u % fP) fun uu => frc (uu * u % fP) fun uuu => frc ((d * d * Z' + (fP - uuu % fP) + (fP - 2 * X' * uu % fP)) % fP) fun t =>
   frc (u * t % fP) fun X2 => frc ((d * (X' * uu + (fP - t % fP)) + (fP - Y' * uuu % fP)) % fP) fun Y2 => frc (uuu * Z' % fP) fun Z2 => i0M e k X2 Y2 Z2
  else i0M e k X' Y' Z'
theorem w0J : i0M (qN - 1) 255 hX hY 1 = true := by decide +kernel
theorem y0Q (a b : Nat) (h : a % fP = b % fP) : kc a = kc b := by rw [← e0M a, h, e0M]
theorem t0y (a : Nat) (h : a % fP ≠ 0) : kc a ≠ 0 := by
 intro e
 have := q0M a
 rw [e, decide_eq_true rfl] at this
 exact h (by simpa using this)
theorem l0B (a : Nat) : kc (a % fP) = kc a := e0M a
theorem j0F (e : Nat) : ∀ (k X Y Z : Nat), i0M e k X Y Z = true → nm (kc X) (kc Y) (kc Z) = a0R (e / 2 ^ k) hP → a0R e hP = f0W hP
 | 0, X, Y, Z, h, hp => by
  simp only [i0M, Bool.and_eq_true, Bool.not_eq_true', beq_iff_eq, beq_eq_false_iff_ne, ne_eq] at h
  obtain ⟨⟨hz, hx⟩, hy⟩ := h
  rw [Nat.pow_zero, Nat.div_one] at hp
  rw [← hp]
  have hx' := y0Q _ _ hx
  rw [a0A] at hx'
  have hy' : kc (Y + hY * Z) = 0 := by
   have := q0M (Y + hY * Z)
   rw [hy] at this
   simpa using this
  rw [h0y, a0A] at hy'
  exact q0N (t0y _ hz) hx' (by grind -lia -linarith)
 | k + 1, X, Y, Z, h, hp => by
  have hon : onC (nm (kc X) (kc Y) (kc Z)) := by rw [hp]; exact a0N b0W _
  simp only [i0M, y0P, Bool.and_eq_true, Bool.not_eq_true', beq_eq_false_iff_ne, ne_eq] at h
  obtain ⟨hz, h⟩ := h
  have hd := q0O hon (t0y _ hz) _ _ _ _ _ _ rfl rfl rfl rfl rfl rfl
  rw [hp] at hd
  have hbit := t0e b0W e k
  generalize hd0 : 3 * (X * X) % fP = d at h
  generalize hu0 : 2 * Y * Z % fP = u at h
  generalize huu : u * u % fP = uu at h
  generalize huuu : uu * u % fP = uuu at h
  generalize ht : (d * d * Z + (fP - 2 * X * uu % fP)) % fP = t at h
  generalize hX' : u * t % fP = X' at h
  generalize hY' : (d * (X * uu + (fP - t % fP)) + (fP - Y * uuu % fP)) % fP = Y' at h
  generalize hZ' : uuu * Z % fP = Z' at h
  have k2 : kc 2 = 2 := by decide
  have k3' : kc 3 = 3 := by decide
  have d1 : kc d = 3 * (kc X * kc X) := by rw [← hd0, l0B, a0A, a0A, k3']
  have u1 : kc u = 2 * kc Y * kc Z := by rw [← hu0, l0B, a0A, a0A, k2]
  have uu1 : kc uu = kc u * kc u := by rw [← huu, l0B, a0A]
  have uuu1 : kc uuu = kc uu * kc u := by rw [← huuu, l0B, a0A]
  have t1 : kc t = kc d * kc d * kc Z - 2 * kc X * kc uu := by rw [← ht, l0B, c0P, a0A, a0A, a0A, a0A, k2]
  have X1 : kc X' = kc u * kc t := by rw [← hX', l0B, a0A]
  have Y1 : kc Y' = kc d * (kc X * kc uu - kc t) - kc Y * kc uuu := by rw [← hY', l0B, c0P, a0A, c0P, a0A, a0A]
  have Z1 : kc Z' = kc uuu * kc Z := by rw [← hZ', l0B, a0A]
  rw [← d1, ← u1, ← uu1, ← uuu1, ← t1, ← X1, ← Y1, ← Z1] at hd
  rw [← hd] at hbit
  clear d1 u1 uu1 uuu1 t1 X1 Y1 Z1 hd0 hu0 huu huuu ht hX' hY' hZ'
  have hon' : onC (nm (kc X') (kc Y') (kc Z')) := by rw [hd]; exact c0w (a0N b0W _) (a0N b0W _)
  by_cases hb : e / 2 ^ k % 2 = 1
  ·rw [if_pos hb] at h hbit
   simp only [Bool.and_eq_true, Bool.not_eq_true', beq_eq_false_iff_ne, ne_eq] at h
   obtain ⟨hz', hu', h⟩ := h
   have one : kc 1 = 1 := by decide
   have hnP : nm (kc hX) (kc hY) (kc 1) = hP := q0N ap2 (by rw [one]; grind -lia -linarith) (by rw [one]; grind -lia -linarith)
   have hs := w0s (X2 := kc hX) (Y2 := kc hY) (Z2 := kc 1) hon' (by rw [hnP]; exact b0W) (t0y _ hz') ap2 (kc (hY * Z')) (kc (hX * Z')) (kc Y') (kc X') (kc (hY * Z') - kc Y') (kc (hX * Z') - kc X') (kc Z') _ _ _ (a0A _ _) (a0A _ _) (by rw [one]; grind -lia -linarith) (by rw [one]; grind -lia -linarith) rfl rfl
    (by rw [← c0P]; exact t0y _ (by rw [Nat.mod_mod] at hu'; exact hu')) (by rw [one]; grind -lia -linarith) rfl rfl rfl
   rw [hnP] at hs
   generalize hd0 : (hY * Z' + (fP - Y' % fP)) % fP = d at h
   generalize hu0 : (hX * Z' + (fP - X' % fP)) % fP = u at h
   generalize huu : u * u % fP = uu at h
   generalize huuu : uu * u % fP = uuu at h
   generalize ht : (d * d * Z' + (fP - uuu % fP) + (fP - 2 * X' * uu % fP)) % fP = t at h
   have d1 : kc d = kc (hY * Z') - kc Y' := by rw [← hd0, l0B, c0P]
   have u1 : kc u = kc (hX * Z') - kc X' := by rw [← hu0, l0B, c0P]
   have uu1 : kc uu = kc u * kc u := by rw [← huu, l0B, a0A]
   have uuu1 : kc uuu = kc uu * kc u := by rw [← huuu, l0B, a0A]
   have t1 : kc t = kc d * kc d * kc Z' - kc uuu - 2 * kc X' * kc uu := by rw [← ht, l0B, c0P, c0P, a0A, a0A, a0A, a0A, k2]
   rw [← d1, ← u1, ← uu1, ← uuu1, ← t1] at hs
   refine j0F e k _ _ _ h ?_
   rw [hbit, ← hs, l0B, l0B, l0B, a0A, c0P, a0A, c0P, a0A, a0A, a0A]
  ·rw [if_neg hb] at h hbit
   rw [b0P] at hbit
   exact j0F e k _ _ _ h hbit.symm
theorem y0R : a0R qN hP = .O := by
 have one : kc 1 = 1 := by decide
 have hnP : nm (kc hX) (kc hY) (kc 1) = hP := q0N ap2 (by rw [one]; grind -lia -linarith) (by rw [one]; grind -lia -linarith)
 have h := j0F (qN - 1) 255 hX hY 1 w0J (by rw [hnP, show (qN - 1) / 2 ^ 255 = 1 by decide]; rfl)
 have e : qN = (qN - 1) + 1 := by decide
 rw [e]
 show a0V (a0R (qN - 1) hP) hP = .O
 rw [h, c0x]
 exact d0a
theorem d0S {a b c : Pt} (ha : onC a) (hb : onC b) (hc : onC c) (h : a0V a b = a0V a c) : b = c := by
 have h1 : a0V (f0W a) (a0V a b) = a0V (f0W a) (a0V a c) := by rw [h]
 rw [← a0Q (c0l ha) ha hb, ← a0Q (c0l ha) ha hc, c0x (f0W a) a, d0a] at h1
 exact h1
theorem h0E {a b : Pt} (ha : onC a) (hb : onC b) (h : a0V a b = .O) : b = f0W a := d0S ha hb (c0l ha) (by rw [h, d0a])
theorem y0S {p : Pt} (hp : onC p) (h : a0V p p = .O) : p = .O := by
 have e := h0E hp hp h
 cases p with
 | O => rfl
 | A x y =>
  exfalso
  have hy : y = -y := by
   have : Pt.A x y = Pt.A x (-y) := e
   injection this
  have h2 : (2 : K) * y = 0 := by grind -lia -linarith
  exact (a0t h2).elim i0G (t0c hp)
theorem f0C {a b c d : Pt} (ha : onC a) (hb : onC b) (hc : onC c) (hd : onC d) : a0V (a0V a b) (a0V c d) = a0V (a0V a c) (a0V b d) := by
 rw [a0Q ha hb (c0w hc hd), ← a0Q hb hc hd, c0x b c, a0Q hc hb hd, ← a0Q ha hc (c0w hb hd)]
def InH (p : Pt) : Prop := ∃ n, p = a0R n hP
theorem InH.on {p : Pt} (h : InH p) : onC p := by obtain ⟨n, rfl⟩ := h; exact a0N b0W n
theorem InH.add {p q : Pt} (h : InH p) (k : InH q) : InH (a0V p q) := by
 obtain ⟨m, rfl⟩ := h
 obtain ⟨n, rfl⟩ := k
 exact ⟨m + n, (b0z b0W m n).symm⟩
theorem t0z (n : Nat) : a0R (qN * n) hP = .O := by rw [d0R b0W, y0R, k0N]
theorem InH.neg {p : Pt} (h : InH p) : InH (f0W p) := by
 obtain ⟨n, rfl⟩ := h
 refine ⟨(qN - 1) * n, (h0E (a0N b0W n) (a0N b0W _) ?_).symm⟩
 rw [← b0z b0W, show n + (qN - 1) * n = qN * n by have h := Nat.add_mul 1 (qN - 1) n; rw [Nat.one_mul, show 1 + (qN - 1) = qN by decide] at h; exact h.symm, t0z]
theorem InH.half {p : Pt} (hp : onC p) (h : InH (a0V p p)) : InH p := by
 obtain ⟨n, hn⟩ := h
 have hm : onC (a0R (n * ((qN + 1) / 2)) hP) := a0N b0W _
 have e : a0V (a0R (n * ((qN + 1) / 2)) hP) (a0R (n * ((qN + 1) / 2)) hP) = a0R n hP := by
  rw [← b0z b0W, ← Nat.mul_add, show (qN + 1) / 2 + (qN + 1) / 2 = qN + 1 by decide, Nat.mul_add, Nat.mul_one, b0z b0W, Nat.mul_comm n, t0z]
  rfl
 refine ⟨n * ((qN + 1) / 2), ?_⟩
 have h2 : a0V (a0V p (f0W (a0R (n * ((qN + 1) / 2)) hP))) (a0V p (f0W (a0R (n * ((qN + 1) / 2)) hP))) = .O := by
  rw [f0C hp (c0l hm) hp (c0l hm), hn, ← e, f0C hm hm (c0l hm) (c0l hm), d0a]
  rfl
 have h3 := y0S (c0w hp (c0l hm)) h2
 have h4 : a0V (f0W (a0R (n * ((qN + 1) / 2)) hP)) p = a0V (f0W (a0R (n * ((qN + 1) / 2)) hP)) (a0R (n * ((qN + 1) / 2)) hP) := by
  rw [c0x, h3, c0x, d0a]
 exact d0S (c0l hm) hp hm h4
theorem n0C {i j : Nat} (hi : i < qN) (hj : j < qN) (h : a0R i hP = a0R j hP) : i = j := by
 have key : ∀ i j : Nat, j < qN → i < j → a0R i hP = a0R j hP → False := by
  intro i j hj hij h
  have hd : a0R (j - i) hP = .O := by
   refine d0S (a0N b0W i) (a0N b0W _) trivial ?_
   rw [← b0z b0W, show i + (j - i) = j by omega, ← h, b0P]
  have hq := A0n
  have hinv := FP.inv A0W (a := j - i) ap1 ap1
  have e1 : a0R ((j - i) * ((j - i) ^ (pQ - 2) % pQ)) hP = .O := by rw [d0R b0W, hd, k0N]
  generalize (j - i) * ((j - i) ^ (pQ - 2) % pQ) = m at *
  rw [← hq] at hinv
  have hm := Nat.div_add_mod m qN
  rw [hinv] at hm
  rw [← hm, b0z b0W, t0z] at e1
  have e2 : a0V (.O) (a0R 1 hP) = hP := rfl
  rw [e2] at e1
  cases e1
 rcases Nat.lt_trichotomy i j with k | k | k
 ·exact (key i j hj k h).elim
 ·exact k
 ·exact (key j i hi k h.symm).elim
theorem pig (N B : Nat) (g : Nat → Nat) (hb : ∀ a, a < N → g a < B) (hi : ∀ a b, a < N → b < N → g a = g b → a = b) : N ≤ B := by
 have hnd : ((List.range N).map g).Nodup := by
  refine List.pairwise_map.2 ?_
  have h0 : (List.range N).Nodup := List.nodup_range
  refine List.Pairwise.imp_of_mem (fun {a b} ha hb' hne => ?_) h0
  exact fun e => hne (hi a b (List.mem_range.1 ha) (List.mem_range.1 hb') e)
 have hs : (List.range N).map g ⊆ List.range B := by
  intro x hx
  obtain ⟨a, ha, rfl⟩ := List.mem_map.1 hx
  exact List.mem_range.2 (hb a (List.mem_range.1 ha))
 have := List.Nodup.length_le_of_subset hnd hs
 simpa using this
def enc : Pt → Nat
 | .O => 0
 | .A x y => 1 + 2 * x.val + y.val % 2
theorem y0T (p : Pt) : enc p < 2 * fP + 1 := by
 cases p with
 | O => show 0 < 2 * fP + 1; omega
 | A x y => have := x.isLt; show 1 + 2 * x.val + y.val % 2 < 2 * fP + 1; omega
theorem w0K {p q : Pt} (hp : onC p) (hq : onC q) (h : enc p = enc q) : p = q := by
 cases p with
 | O => cases q with
  | O => rfl
  | A x y => have h' : 0 = 1 + 2 * x.val + y.val % 2 := h; omega
 | A x y => cases q with
  | O => have h' : 1 + 2 * x.val + y.val % 2 = 0 := h; omega
  | A x' y' =>
   have h' : 1 + 2 * x.val + y.val % 2 = 1 + 2 * x'.val + y'.val % 2 := h
   have hx : x = x' := Fin.ext ap1
   have hy : y.val % 2 = y'.val % 2 := by omega
   subst hx
   have hp' : y * y = x * x * x + 7 := hp
   have hq' : y' * y' = x * x * x + 7 := hq
   rcases q0S (hp'.trans hq'.symm) with e | e
   ·rw [e]
   ·exfalso
    rw [e, h0A y' (t0c hq')] at hy
    omega
theorem w0L : ¬ 3 * qN ≤ 2 * fP + 1 := by decide
theorem y0U {p : Pt} (hp : onC p) : InH p := by
 refine Classical.byContradiction fun hn => ?_
 have hnp := c0l hp
 let c : Nat → Pt := fun k => if k = 0 then .O else if k = 1 then p else f0W p
 have hc : ∀ k, onC (c k) := fun k => by
  show onC (if k = 0 then .O else if k = 1 then p else f0W p)
  split
  ·trivial
  ·split
   ·exact hp
   ·exact hnp
 have hsub : ∀ a b : Pt, onC a → onC b → ∀ i j, a0V a (a0R i hP) = a0V b (a0R j hP) → InH (a0V a (f0W b)) := by
  intro a b ha hb i j h
  have hI := a0N b0W i
  have hJ := a0N b0W j
  obtain ⟨m, hm⟩ := InH.add (p := a0R j hP) (q := f0W (a0R i hP)) ⟨j, rfl⟩ (InH.neg ⟨i, rfl⟩)
  refine ⟨m, ?_⟩
  rw [← hm]
  have e1 : a0V (a0V a (a0R i hP)) (a0V (f0W b) (f0W (a0R i hP))) = a0V (a0V b (a0R j hP)) (a0V (f0W b) (f0W (a0R i hP))) := by rw [h]
  rw [f0C ha hI (c0l hb) (c0l hI), f0C hb hJ (c0l hb) (c0l hI), d0a, d0a, b0P] at e1
  exact e1
 have hdiff : ∀ k l, k < 3 → l < 3 → InH (a0V (c k) (f0W (c l))) → k = l := by
  have h0 : c 0 = .O := rfl
  have h1 : c 1 = p := rfl
  have h2 : c 2 = f0W p := rfl
  have nn : f0W (f0W p) = p := (h0E hnp hp (by rw [c0x, d0a])).symm
  have hneg : InH (f0W p) → InH p := fun h => by have := h.neg; rwa [nn] at this
  intro k l hk hl h
  have hk3 : k = 0 ∨ k = 1 ∨ k = 2 := by omega
  have hl3 : l = 0 ∨ l = 1 ∨ l = 2 := by omega
  rcases hk3 with rfl | rfl | rfl <;> rcases hl3 with rfl | rfl | rfl <;> try rfl
  ·rw [h0, h1] at h; exact (hn (hneg h)).elim
  ·rw [h0, h2, nn] at h; exact (hn h).elim
  ·rw [h0, h1] at h; exact (hn (by have h' : InH (a0V p .O) := h; rwa [b0P] at h')).elim
  ·rw [h1, h2, nn] at h; exact (hn (InH.half hp h)).elim
  ·rw [h0, h2] at h; exact (hn (hneg (by have h' : InH (a0V (f0W p) .O) := h; rwa [b0P] at h'))).elim
  ·rw [h1, h2] at h; exact (hn (hneg (InH.half hnp h))).elim
 have hq : 0 < qN := by decide
 have h3 := w0L
 generalize hqn : qN = q at hq h3
 refine h3 (pig (3 * q) (2 * fP + 1) (fun m => enc (a0V (c (m / q)) (a0R (m % q) hP))) (fun a _ => y0T _) ?_)
 intro a b ha hb h
 have ha3 : a / q < 3 := Nat.div_lt_of_lt_mul (by rw [Nat.mul_comm]; exact ha)
 have hb3 : b / q < 3 := Nat.div_lt_of_lt_mul (by rw [Nat.mul_comm]; exact hb)
 have e := w0K (c0w (hc _) (a0N b0W _)) (c0w (hc _) (a0N b0W _)) h
 have ek := hdiff _ _ ha3 hb3 (hsub _ _ (hc _) (hc _) _ _ e)
 rw [ek] at e
 have e2 := d0S (hc _) (a0N b0W _) (a0N b0W _) e
 have hma := Nat.mod_lt a hq
 have hmb := Nat.mod_lt b hq
 rw [← hqn] at hma hmb e2
 have e3 := n0C hma hmb e2
 rw [hqn] at e3
 rw [← Nat.div_add_mod a q, ← Nat.div_add_mod b q, ek, e3]
theorem y0V {p : Pt} (hp : onC p) : a0R qN p = .O := by
 obtain ⟨n, rfl⟩ := y0U hp
 rw [← d0R b0W, Nat.mul_comm, t0z]
theorem g0J {p : Pt} (hp : onC p) (n : Nat) : a0R (n % qN) p = a0R n p := by
 have h := Nat.div_add_mod n qN
 conv => rhs; rw [← h, b0z hp, d0R hp, y0V hp, k0N]
 rfl
end Mvq
namespace Mvq
end Mvq
namespace Go.Proofs.YtpfimiajoifjaaaGreat
open Go.RowKit Go.Mv Mvp Mvq
def A0o (st label : List UInt8) : Nat := beN (a0E (c0n z0T [st, label]) 31 64) % mQ.M
def w0M (st : List UInt8) : Nat := A0o st e0V
end Go.Proofs.YtpfimiajoifjaaaGreat
namespace Mvt
variable {α : Type} (nd : α → α → α)
def half (n : Nat) : Nat := 2 ^ Nat.log2 (n - 1)
def skip (a e : Nat) : Nat × Nat := if a % 2 = 0 ∧ 0 < a then skip (a / 2) (e / 2) else (a, e)
termination_by a
decreasing_by omega
end Mvt
namespace Go.Proofs.YtpfimiajoifjaaaGreat
open Go.RowKit Go.Mv Mvp Mvt
attribute [local irreducible] a0T b0c toB a0u a0w a0Y a0E b0Z a0S a0x c0n
end Go.Proofs.YtpfimiajoifjaaaGreat
namespace Mvp
end Mvp
namespace Go.Mv
open Mvp
end Go.Mv
namespace Go.Proofs.YtpfimiajoifjaaaGreat
section
open Go.RowKit Go.Mv Mvp Mvt
attribute [local irreducible] a0T b0c toB a0u a0w a0Y a0E b0Z a0S a0x c0n
end
section
open Go.RowKit Go.Mv Mvp Mvt
attribute [local irreducible] a0T b0c toB a0u a0w a0Y a0E b0Z a0S a0x c0n
end
end Go.Proofs.YtpfimiajoifjaaaGreat
namespace Mvp
end Mvp
namespace Go.Proofs.YtpfimiajoifjaaaGreat
section
open Go.RowKit Go.Mv Mvp
attribute [local irreducible] a0T b0c toB a0u a0w a0Y a0E b0Z a0S a0x c0n
end
section
open Go.RowKit Go.Mv Mvp
def AllPost (m : Md) (ls : List (List UInt8)) (w : World) (e : Ending) (w' : World) : Prop :=
 (a0D m ls = true → ∃ v, e = .returned (.tuple #[v, .bool true]) ∧ Own w' w.heap.size 125 4 v ls.length (a0I m ls)) ∧
 (a0D m ls = false → e = .returned (.tuple #[.slice none 0 0, .bool false])) ∧ Fr Nob w w'
theorem AllPost.bad {m : Md} {ls : List (List UInt8)} {w w' : World} {e : Ending} (h : a0D m ls = false) (he : e = .returned (.tuple #[.slice none 0 0, .bool false])) (hf : Fr Nob w w') : AllPost m ls w e w' :=
 ⟨fun h1 => (by rw [h] at h1; cases h1), fun _ => he, hf⟩
theorem AllPost.good {m : Md} {ls : List (List UInt8)} {w w' : World} {e : Ending} {v : Value} (h : a0D m ls = true) (he : e = .returned (.tuple #[v, .bool true])) (ho : Own w' w.heap.size 125 4 v ls.length (a0I m ls)) (hf : Fr Nob w w') : AllPost m ls w e w' :=
 ⟨fun _ => ⟨v, he, ho⟩, fun h1 => (by rw [h] at h1; cases h1), hf⟩
attribute [local irreducible] a0v lw mix cw b0e b0f b0a beN b0l b0b a0z a0F elN mdL a0I a0D b0m
theorem r0u (m : Md) (hk : KindOf 1 m) (al : Option Addr) (n cl : Nat) (vs : List Value) (ls : List (List UInt8)) (w : World) (hv : Rd w al n vs) (hp : BParts w vs ls) (hn : n ≤ 100000) :
  Calls Tryz.prog 44 #[.slice al n cl] w (AllPost m ls w) := by
 have HK := qH hk
 have HOK := qH hk.ok
 have HV := qH hv
 have HP := qH hp
 have HL := qH (show ls.length = n by rw [← hp.1, hv.len])
 clear hk hv hp
 go_enter Tryz.func44, Tryz.ntmps44
 go_wp2
 go_loopw [4, 11] (fun v i wr => ∃ k : Nat, k ≤ n ∧ i = .int .i64 (k : Int) ∧ a0D m (ls.take k) = true ∧ Own wr w.heap.size 125 4 v k (a0I m (ls.take k)) ∧ Fr Nob w wr) (fun _ i _ => n - (intOf i).toNat)
 case atStart => exact ⟨0, Nat.zero_le _, rfl, by rw [List.take_zero]; unfold a0D; rfl, by rw [List.take_zero]; unfold a0I; exact Own.nil _ _ _ _, Fr.refl _ _⟩
 case round =>
  obtain ⟨k, hk, rfl, hgood, hown, hf⟩ := hrel
  by_cases hlt : k < n
  ·have hltI : (k : Int) < (n : Int) := by omega
   obtain ⟨b, o, rfl, hat⟩ := (HV.out.still hf).at ap1
   have hvl : k < vs.length := by rw [HV.out.len]; exact hlt
   obtain ⟨a, nn, c, hve, hcc, hrd⟩ := HP.out.2 k (vs[k]'hvl) (List.getElem?_eq_getElem hvl)
   have hc1 := hat k _ (List.getElem?_eq_getElem hvl)
   rw [hve] at hc1
   have hlk : k < ls.length := by rw [HL.out]; exact hlt
   have hts := e0x m ls k hlk
   have hcs : a0I m (ls.take (k + 1)) = a0I m (ls.take k) ++ cw 4 (elN m (beN (ls.getD k []))) := by
    rw [List.take_succ_eq_append_getElem hlk, k0C]
    simp [List.getD_eq_getElem?_getD, hlk]
   have hbad := f0t m ls k hlk
   generalize hL : ls.getD k [] = l at *
   have HLL := qH hL
   have HRD := qH (hrd.still hf)
   have HTS := qH hts
   have HCS := qH hcs
   have HBAD := qH hbad
   have HG := qH hgood
   have HOWN := qH hown
   have HF := qH hf
   have hnI : (n : Int) ≤ 100000 := by omega
   clear hL hrd hts hcs hbad hgood hown hf hat hve hcc
   cases hnb : b0m m l
   ·have HNB := qH hnb
    have HNL := qH (HBAD.out hnb)
    clear hnb
    have st0 := St.start Nob wr
    go_wp2_with fail
    refine (A0b m HK.out a nn c l _ (HRD.out.still st0.fr) HNB.out).mono ?_
    rintro e' w1 ⟨rfl, hf1⟩
    have st1 := st0.keep hf1
    clear st0 hf1
    go_wp2_with (with_reducible refine wSk 7 ?_)
    refine a0b st1 rfl rfl (z := zAd) ap0 (cw 4 0) ap5 ?_
    intro g7 w2 st2
    clear st1
    go_wp2_with (with_reducible refine wSn ?_)
    refine a0c st2 0 rfl rfl rfl rfl rfl ap6 ap3 (a0f _ _) ?_
    intro w3 st3
    clear st2
    have HFR := qH (HF.out.then st3.fr)
    clear st3
    go_wp2_with fail
    go_ret2
    exact AllPost.bad HNL.out rfl HFR.out
   ·have HNB := qH hnb
    clear hnb
    have st0 := St.start Nob wr
    go_wp2_with fail
    refine (A0a m HK.out a nn c l _ (HRD.out.still st0.fr) HNB.out).mono ?_
    rintro e' w1 ⟨rfl, hf1⟩
    have st1 := st0.keep hf1
    clear st0 hf1
    go_wp2_with (with_reducible refine wSk 7 ?_)
    refine a0b st1 rfl rfl (z := zAd) ap0 (cw 4 0) ap5 ?_
    intro g7 w2 st2
    clear st1
    go_wp2_with (with_reducible refine wSn ?_)
    refine a0c st2 0 rfl rfl rfl rfl rfl ap6 ap3 (a0f _ _) ?_
    intro w3 st3
    clear st2
    go_wp2_with (with_reducible refine wSk 23 ?_)
    refine a0s st3 0 rfl rfl rfl Tryz.underlying125 rfl rfl ap3 ?_
    go_wp2_with (with_reducible refine wSk 24 ?_)
    refine g0y rfl rfl Tryz.underlying83 d0s [i4 (elN m (beN l))] rfl (by simp [i4, Value.cells, a0g]) rfl (cw 4 (elN m (beN l))) (by simp [j0k]) ?_
    intro wA hgA hfA hzA
    clear hzA
    have hfrA := st3.fr.then hfA
    have hsz := HF.out.size
    have hsz2 := hfrA.size
    have hownA := HOWN.out.still hfrA
    have hrdA : Rd wA (some ⟨w3.heap.size, 0, none⟩) (1 * 4) (cw 4 (elN m (beN l))) := by
     have := Rd.whole hgA
     rwa [a0g] at this
    have HRDA := qH hrdA
    have HOWNA := qH hownA
    have HFRA := qH hfrA
    clear hgA hfA hrdA hownA hfrA st3
    generalize w3.heap.size = gA at *
    go_wp2_with (with_reducible refine wSk 25 ?_)
    refine c0p rfl rfl Tryz.underlying83 d0s rfl ap2 HOWNA.out rfl rfl HRDA.out (a0f _ _) ap9 ap1 ap1 ?_
    intro vB wB hownB hfB hbB
    clear hbB
    have hfrB := HOWNA.out.fr (HF.out.then HFRA.out) (Nat.le_refl _) hfB
    have HFRB := qH hfrB
    rw [← HCS.out] at hownB
    have HOWNB := qH hownB
    clear hfrB hownB hfB
    go_wp2_with fail
    go_roundw
    case rel => exact ⟨k + 1, by omega, by go_num, by rw [HTS.out, HG.out, HNB.out]; rfl, HOWNB.out, HFRB.out⟩
    case measure => simp [intOf]; omega
  ·have hge : ¬ ((k : Int) < (n : Int)) := by omega
   have hkn : k = ls.length := by rw [HL.out]; omega
   rw [hkn, List.take_of_length_le (Nat.le_refl _)] at hgood hown
   have HG := qH hgood
   have HO := qH hown
   have HF := qH hf
   clear hkn hgood hown hf
   go_wp2_with fail
   go_ret2
   exact AllPost.good HG.out rfl HO.out HF.out
end
section
open Go.RowKit Go.Mv Mvp
attribute [local irreducible] a0v lw mix cw b0e b0f b0a beN b0l b0b a0z a0F elN mdL
end
section
open Go.RowKit Go.Mv Mvp
attribute [local irreducible] a0v lw mix cw b0e b0f b0a beN b0l b0b a0z a0F elN mdL b0m a0D a0I
end
end Go.Proofs.YtpfimiajoifjaaaGreat
namespace Mvp
end Mvp
namespace Go.Proofs.YtpfimiajoifjaaaGreat
section
open Go.RowKit Go.Mv Mvp
attribute [local irreducible] a0v lw mix cw b0e b0f b0a beN b0l b0b a0z a0F elN mdL a0I a0D b0m
theorem BParts.four {w : World} {v1 v2 v3 v4 : Value} {l1 l2 l3 l4 : List UInt8} (h1 : BPart w v1 l1) (h2 : BPart w v2 l2) (h3 : BPart w v3 l3) (h4 : BPart w v4 l4) : BParts w [v1, v2, v3, v4] [l1, l2, l3, l4] := ⟨rfl, fun i x hx => by
 match i with
 | 0 => simp at hx; subst hx; exact h1
 | 1 => simp at hx; subst hx; exact h2
 | 2 => simp at hx; subst hx; exact h3
 | 3 => simp at hx; subst hx; exact h4
 | i + 4 => simp at hx⟩
end
section
open Go.RowKit Go.Mv Mvp
attribute [local irreducible] a0v lw mix cw b0e b0f b0a beN b0l b0b a0z a0F elN mdL a0I a0D b0m
end
section
open Go.RowKit Go.Mv Mvp Mvt
theorem o0S (m : Md) (hk : KindOf 1 m) (v : Value) (l : List UInt8) (w : World) (hp : PartIs w v l) :
  Calls Tryz.prog 252 #[v] w fun e w' => e = .returned (i4 (elN m (beN l))) ∧ Fr Nob w w' := by
 obtain ⟨a, n, c, rfl, hc, hn, hr, ho⟩ := hp
 exact q0y m hk a n c l w hr hc hn
attribute [local irreducible] a0v lw mix cw b0e b0f b0a beN b0l b0b a0z a0F elN mdL a0I a0D b0m a0T b0c toB a0u a0w a0Y a0E b0Z a0S a0x c0n
end
section
open Go.RowKit Go.Mv Mvp Mvq
attribute [local irreducible] a0v lw mix cw b0e b0f b0a beN b0l b0b a0z a0F elN mdL b0m a0T b0c toB a0u a0w a0Y a0E b0Z a0S a0x c0n
theorem m0x : (Tryz.prog.info? 125).map (·.zero) = some (some (.agg #[.int .u64 0, .int .u64 0, .int .u64 0, .int .u64 0])) := by kernel_rfl
theorem a0G (x : Nat) : (Tryz.prog.info? 125).map (·.size) = some (cw 4 x).length := by rw [a0g]; kernel_rfl
theorem e0c (x y : Nat) : (cw 4 x).length = (cw 4 y).length := by rw [a0g, a0g]
theorem r0v {w : World} {base : Nat} {v : Value} {n : Nat} {l : List UInt8} (h : Own w base 5 1 v n (bs l)) (hn : n ≤ 1000000) : ∃ a c, v = .slice a n c ∧ PartIs w (.slice a n c) l := by
 have h2 := b0G h hn
 obtain ⟨a, c, rfl, -⟩ := d0Z h
 exact ⟨a, c, rfl, h2⟩
theorem r0w (base g : Nat) (st : List UInt8) (s : ByteArray) (w : World) (hs : s.size ≤ 1000000) (hl : LogAt w base g st) (hbase : base ≤ w.heap.size) :
  Calls Tryz.prog 258 #[tkV g, .string s] w fun e w' => e = .returned (i4 (elN mQ (A0o st s.data.toList))) ∧ LogAt w' base g (c0n i0u [st, s.data.toList]) ∧ Fr (One g) w w' := by
 have HS := qH hs
 have HL := qH hl
 have HBS := qH hbase
 clear hs hl hbase
 have st0 := St.start (One g) w
 go_enter Tryz.func258, Tryz.ntmps258
 go_wp2_with (with_reducible refine wSk 2 ?_)
 refine j0n st0 rfl rfl rfl [.pointer (some ⟨g, 0, none⟩)] rfl ?_
 intro g2 w1 st1 hf1
 have HL1 := qH (HL.out.still hf1)
 clear st0 hf1 HL
 go_wp2_with (with_reducible refine wSk 4 ?_)
 refine d0F st1 rfl rfl m0x (cw 4 0) ap5 ?_
 intro g4 w2 st2 hf2 hs2
 have HL2 := qH (HL1.out.still hf2)
 clear st1 hf2 hs2 HL1
 have hc0 := (st2.at 0 rfl).cell (i := 0) rfl
 have ST2 := qH st2
 clear st2
 go_wp2_with fail
 refine (v0Q base g st s 64 _ HS.out ap2 HL2.out (Nat.le_trans HBS.out ST2.out.fr.size)).mono ?_
 rintro e' w3 ⟨v, rfl, ho, hl3, hf3⟩
 have st3 := ST2.out.keep1 hf3 (.inr rfl) (HL2.out.notIn ST2.out.has (by intro x hx; simp only [List.mem_cons, List.not_mem_nil, or_false, List.cons_append, List.nil_append] at hx; rcases hx with rfl | rfl <;> (dsimp only; decide)))
 have HL3 := qH hl3
 obtain ⟨a, c, rfl, hp⟩ := r0v ho ap2
 have HP := qH hp
 clear hl3 hf3 ho hp HL2 ST2 hc0
 go_wp2_with fail
 refine (o0S mQ .one _ _ _ HP.out).mono ?_
 rintro e' w4 ⟨rfl, hf4⟩
 have st4 := st3.keep hf4
 have HL4 := qH (HL3.out.still hf4)
 clear st3 hf4 HL3 HP
 go_wp2_with (with_reducible refine wSn ?_)
 refine b0U st4 1 rfl rfl rfl rfl rfl (e0c _ _) (a0G _) (a0f _ _) ?_
 intro w5 st5 hf5
 have HL5 := qH (HL4.out.off hf5 (st4.at 1 rfl) ap2 ap2)
 clear st4 hf5 HL4
 have hr := st5.at 1 rfl
 have hfr := st5.fr
 clear st5
 go_wp2_with fail
 exact bodyPost_ret (a0y rfl rfl hr Tryz.underlying125 rfl (a0G _)) rfl ⟨by unfold A0o; rw [n0j]; rfl, HL5.out, hfr⟩
theorem w0N (base g : Nat) (st : List UInt8) (w : World) (hl : LogAt w base g st) (hbase : base ≤ w.heap.size) :
  Calls Tryz.prog 219 #[tkV g] w fun e w' => e = .returned (i4 (elN mQ (w0M st))) ∧ LogAt w' base g (c0n i0u [st, e0V]) ∧ Fr (One g) w w' := by
 have HL := qH hl
 have HBS := qH hbase
 clear hl hbase
 have st0 := St.start (One g) w
 go_enter Tryz.func219, Tryz.ntmps219
 go_wp2_with (with_reducible refine wSk 1 ?_)
 refine j0n st0 rfl rfl rfl [.pointer (some ⟨g, 0, none⟩)] rfl ?_
 intro g2 w1 st1 hf1
 have HL1 := qH (HL.out.still hf1)
 clear st0 hf1 HL
 go_wp2_with (with_reducible refine wSk 2 ?_)
 refine d0F st1 rfl rfl m0x (cw 4 0) ap5 ?_
 intro g4 w2 st2 hf2 hs2
 have HL2 := qH (HL1.out.still hf2)
 clear st1 hf2 hs2 HL1
 go_wp2_with (with_reducible refine wSk 3 ?_)
 refine a0s st2 0 rfl rfl rfl Tryz.underlying96 rfl rfl ap0 ?_
 have ST2 := qH st2
 clear st2
 go_wp2_with fail
 refine (r0w base g st ⟨#[99, 104, 97, 108, 108, 101, 110, 103, 101]⟩ _ ap2 HL2.out (Nat.le_trans HBS.out ST2.out.fr.size)).mono ?_
 rintro e' w3 ⟨rfl, hl3, hf3⟩
 have st3 := ST2.out.keep1 hf3 (.inr rfl) (HL2.out.notIn ST2.out.has (by intro x hx; simp only [List.mem_cons, List.not_mem_nil, or_false, List.cons_append, List.nil_append] at hx; rcases hx with rfl | rfl <;> (dsimp only; decide)))
 have HL3 := qH hl3
 clear hl3 hf3 HL2 ST2
 go_wp2_with (with_reducible refine wSn ?_)
 refine b0U st3 1 rfl rfl rfl rfl rfl (e0c _ _) (a0G _) (a0f _ _) ?_
 intro w5 st5 hf5
 have HL5 := qH (HL3.out.off hf5 (st3.at 1 rfl) ap2 ap2)
 clear st3 hf5 HL3
 have hr := st5.at 1 rfl
 have hfr := st5.fr
 clear st5
 go_wp2_with fail
 exact bodyPost_ret (a0y rfl rfl hr Tryz.underlying125 rfl (a0G _)) rfl ⟨rfl, HL5.out, hfr⟩
end
end Go.Proofs.YtpfimiajoifjaaaGreat
namespace Go.Mv
open Go.RowKit
theorem o0T (A F B cs : List Value) (n off : Nat) (hA : A.length = n) (h : off + cs.length ≤ F.length) : splice (A ++ (F ++ B)) (n + off) cs = A ++ (splice F off cs ++ B) := by
 subst hA
 unfold splice
 have h1 : List.take (A.length + off) (A ++ (F ++ B)) = A ++ List.take off F := by
  rw [List.take_length_add_append, List.take_append_of_le_length ap1]
 have h2 : List.drop (A.length + off + cs.length) (A ++ (F ++ B)) = List.drop (off + cs.length) F ++ B := by
  rw [Nat.add_assoc, List.drop_length_add_append, List.drop_append_of_le_length h]
 rw [h1, h2]
 simp [List.append_assoc]
theorem n0D (f f' : Nat → List Value) (k : Nat) (hl : ∀ i, (f i).length = k) (n i off : Nat) (cs : List Value) (h : i < n) (ho : off + cs.length ≤ k) (hi : f' i = splice (f i) off cs) (hv : ∀ j, j ≠ i → f' j = f j) : splice ((List.range n).flatMap f) (i * k + off) cs = (List.range n).flatMap f' := by
 have hlen : (splice (f i) off cs).length = k := by
  unfold splice
  simp only [List.length_append, List.length_take, List.length_drop, hl]
  omega
 have e := n0u f f' k hl n i h (by rw [hi]; exact hlen) hv
 rw [← e, hi, e0A f n i h, o0T _ _ _ cs (i * k) off (by rw [d0c f k hl, Nat.mul_comm]) (by rw [hl]; exact ho), i0J _ _ _ _ (i * k) (by rw [d0c f k hl, Nat.mul_comm]) (by rw [hlen, hl])]
end Go.Mv
namespace Go.Proofs.YtpfimiajoifjaaaGreat
section
open Go.RowKit Go.Mv Mvp Mvq
noncomputable def tmF (n : Nat) (a : Nat → Nat) (T : Nat → List Value) : List Value := (List.range n).flatMap fun i => cw 4 (a i) ++ T i
def upN {α : Type} (a : Nat → α) (k : Nat) (x : α) : Nat → α := fun i => if i = k then x else a i
theorem r0x (a : Nat → Nat) (T : Nat → List Value) (hT : ∀ i, (T i).length = 192) (i : Nat) : (cw 4 (a i) ++ T i).length = 196 := by rw [List.length_append, a0g, hT]
theorem r0y (n : Nat) (a : Nat → Nat) (T : Nat → List Value) (hT : ∀ i, (T i).length = 192) : (tmF n a T).length = n * 196 := by
 rw [Nat.mul_comm]; exact d0c _ 196 (r0x a T hT) n
theorem t0A (n : Nat) (a : Nat → Nat) (T : Nat → List Value) (hT : ∀ i, (T i).length = 192) (k x : Nat) (h : k < n) : splice (tmF n a T) (k * 196) (cw 4 x) = tmF n (upN a k x) T := by
 have := n0D (fun i => cw 4 (a i) ++ T i) (fun i => cw 4 (upN a k x i) ++ T i) 196 (r0x a T hT) n k 0 (cw 4 x) h (by rw [a0g]; omega)
  (by
   show cw 4 (upN a k x k) ++ T k = _
   unfold upN splice
   rw [if_pos rfl, Nat.zero_add, a0g, List.drop_append_of_le_length (by rw [a0g]; omega), List.drop_of_length_le (by rw [a0g]; omega)]
   rfl)
  (fun j hj => by show cw 4 (upN a k x j) ++ T j = _; unfold upN; rw [if_neg hj])
 rw [Nat.add_zero] at this
 exact this
theorem t0B (n : Nat) (a : Nat → Nat) (T : Nat → List Value) (hT : ∀ i, (T i).length = 192) (k : Nat) (t : List Value) (ht : t.length = 192) (h : k < n) : splice (tmF n a T) (k * 196 + 4) t = tmF n a (upN T k t) :=
 n0D (fun i => cw 4 (a i) ++ T i) (fun i => cw 4 (a i) ++ upN T k t i) 196 (r0x a T hT) n k 4 t h (by rw [ht]; omega)
  (by
   show cw 4 (a k) ++ upN T k t k = _
   unfold upN splice
   rw [if_pos rfl, List.take_append_of_le_length (by rw [a0g]; omega), List.take_of_length_le (by rw [a0g]; omega), List.drop_of_length_le (by rw [List.length_append, a0g, hT, ht]; omega), List.append_nil])
  (fun j hj => by show cw 4 (a j) ++ upN T k t j = _; unfold upN; rw [if_neg hj])
theorem e0t (n : Nat) (a a' : Nat → Nat) (T T' : Nat → List Value) (h : ∀ i, i < n → a i = a' i ∧ T i = T' i) : tmF n a T = tmF n a' T' := by
 unfold tmF
 rw [List.flatMap_def, List.flatMap_def]
 congr 1
 exact List.map_congr_left fun i hi => by obtain ⟨h1, h2⟩ := h i (List.mem_range.1 hi); rw [h1, h2]
theorem t0C (n : Nat) : List.replicate (n * 196) (Value.int .u64 0) = tmF n (fun _ => 0) (fun _ => cw 192 0) := by
 unfold tmF
 induction n with
 | zero => rfl
 | succ n ih =>
  rw [List.range_succ, List.flatMap_append, ← ih, Nat.succ_mul, ← List.replicate_append_replicate]
  congr 1
  simp only [List.flatMap_cons, List.flatMap_nil, List.append_nil, e0l]
  rw [List.replicate_append_replicate]
theorem w0O (l : List (Nat × PT)) : tmF l.length (fun i => (g0p l i).1) (fun i => tbL (g0p l i).2 16) = tmL l := rfl
end
section
open Go.RowKit Go.Mv Mvp Mvq
noncomputable def tkT (ls : List (List UInt8)) (k : Nat) : Nat → List Value := fun i => if i < k then tbL (rdT (ls.getD i [])) 16 else cw 192 0
theorem r0z (ls : List (List UInt8)) (k i : Nat) : (tkT ls k i).length = 192 := by
 unfold tkT
 split
 ·exact b0Q _ _
 ·exact a0g _ _
noncomputable def l0C (a : Nat → Nat) (ls : List (List UInt8)) : List (Nat × PT) := (List.range ls.length).map fun i => (a i, rdT (ls.getD i []))
theorem n0E (a : Nat → Nat) (ls : List (List UInt8)) : (l0C a ls).length = ls.length := by simp [l0C]
theorem w0P (a : Nat → Nat) (ls : List (List UInt8)) (i : Nat) (h : i < ls.length) : g0p (l0C a ls) i = (a i, rdT (ls.getD i [])) := by
 unfold g0p l0C
 rw [List.getD_eq_getElem?_getD, List.getElem?_map, List.getElem?_range h]
 rfl
theorem t0D (a : Nat → Nat) (ls : List (List UInt8)) : tmF ls.length a (tkT ls ls.length) = tmL (l0C a ls) := by
 rw [← w0O, n0E]
 refine e0t _ _ _ _ _ fun i hi => ?_
 rw [w0P a ls i hi]
 refine ⟨rfl, ?_⟩
 unfold tkT
 rw [if_pos hi]
theorem t0E (n : Nat) (a : Nat → Nat) (ls : List (List UInt8)) : tmF n a (fun _ => cw 192 0) = tmF n a (tkT ls 0) := e0t _ _ _ _ _ fun i _ => ⟨rfl, by unfold tkT; rw [if_neg (Nat.not_lt_zero _)]⟩
theorem w0Q (n : Nat) (a : Nat → Nat) (ls : List (List UInt8)) (k : Nat) (h : k < n) (l : List UInt8) (hl : ls.getD k [] = l) : splice (tmF n a (tkT ls k)) (k * 196 + 4) (tbL (rdT l) 16) = tmF n a (tkT ls (k + 1)) := by
 subst hl
 rw [t0B n a _ (r0z ls k) k _ (b0Q _ _) h]
 refine e0t _ _ _ _ _ fun i _ => ⟨rfl, ?_⟩
 unfold upN tkT
 by_cases e : i = k
 ·rw [if_pos e, if_pos ap1, e]
 ·rw [if_neg e]
  by_cases e2 : i < k
  ·rw [if_pos e2, if_pos ap1]
  ·rw [if_neg e2, if_neg ap1]
theorem y0W {w : World} {gT : Nat} {a : Nat → Nat} {ls : List (List UInt8)} {T : TypeId} (h : Has w gT (tmF ls.length a (tkT ls ls.length)) T) : Rd w (some ⟨gT, 0, none⟩) ((l0C a ls).length * 196) (tmL (l0C a ls)) := by
 rw [t0D] at h
 have := Rd.whole h
 rwa [w0A] at this
theorem u0V (w : World) : Calls Tryz.prog 108 #[] w fun e w' => ∃ gc, e = .returned (.pointer (some ⟨gc, 0, none⟩)) ∧ Cv w' gc ∧ Fr Nob w w' :=
 (f0B w).mono fun _ _ ⟨gc, k1, _, k2, k3⟩ => ⟨gc, k1, k2, k3⟩
attribute [local irreducible] a0v lw mix cw b0e b0f b0a beN b0l b0b a0z a0F elN mdL b0m rtN rtV b0J gXn gYn PT.L j0V j0x e0G tbL tmR tmL dbN g0G g0q j0W dig rdT b0s c0Q ptL g0u c0z c0m tmF upN
theorem y0X (n : Nat) (a : Nat → Nat) (ls : List (List UInt8)) (hls : ls.length = n) (hn : n ≤ 100000) (gb gT : Nat) (w : World) (hne : gb ≠ gT) (hgb : Has w gb [.slice (some ⟨gT, 0, none⟩) n n] 267) (hgt : Has w gT (tmF n a fun _ => cw 192 0) 181)
  (ap : Option Addr) (cp : Nat) (hoff : Off (One gT) ap) (hre : Rd w ap (ls.length * 12) (g0u ls)) :
  Calls Tryz.prog 201 #[.slice ap n cp, .pointer (some ⟨gb, 0, none⟩)] w fun e w' => e = .returned (.agg (j0W (l0C a ls)).L.toArray) ∧ Fr (One gT) w w' := by
 rw [t0E n a ls] at hgt
 have HLS := qH hls
 have HN := qH hn
 have hnI : (n : Int) ≤ 100000 := by omega
 have HNE := qH (show ¬ One gT gb from hne)
 have HGB := qH hgb
 have HGT := qH hgt
 have HOFF := qH hoff
 have HRE := qH hre
 clear hls hne hgb hgt hoff hre hn
 have st0 := St.one HGT.out
 go_enter Tryz.func201, Tryz.ntmps201
 go_wp2_with (with_reducible refine wSk 3 ?_)
 refine a0b st0 rfl rfl (z := .agg (List.replicate 12 (.int .u64 0)).toArray) ap0 (cw 12 0) ap5 ?_
 intro g3 w1 st1
 clear st0
 go_wp2
 go_loopw [8] (fun x wr => ∃ k : Nat, k ≤ n ∧ x = .int .i64 (k : Int) ∧ St (One gT) w wr [(gT, tmF n a (tkT ls k), 181), (g3, cw 12 0, 174)]) (fun x _ => n - (intOf x).toNat)
 case atStart => exact ⟨0, Nat.zero_le _, rfl, st1⟩
 case round =>
  obtain ⟨k, hk, rfl, st⟩ := hrel
  clear st1
  by_cases hlt : k < n
  ·have hltI : (k : Int) < (n : Int) := by omega
   obtain ⟨ba, oa, hea, -⟩ := HRE.out.at (by have := HLS.out; omega)
   subst hea
   have hk0 : (0 : Int) ≤ (k : Int) := by omega
   have hpa := w0H ls k (by rw [HLS.out]; exact hlt)
   generalize hl : ls.getD k [] = l at *
   have HLL := qH hl
   have HPA := qH hpa
   clear hl hpa
   have HLT := qH hlt
   have HLK := qH (show k < ls.length by rw [HLS.out]; exact hlt)
   clear hlt
   go_wp2_with (with_reducible refine wSk 12 ?_)
   refine d0L rfl rfl Tryz.underlying174 rfl rfl (o0D (HRE.out.keep st.fr HOFF.out) (k * 12) ((rdT l).L) HPA.out) ap11 ?_
   go_wp2_with (with_reducible refine wSk 5 ?_)
   refine a0b st rfl rfl (z := .agg (List.replicate 12 (.int .u64 0)).toArray) ap0 (cw 12 0) ap5 ?_
   intro g5 w2 st2
   clear st
   go_wp2_with (with_reducible refine wSn ?_)
   refine a0c st2 2 rfl rfl rfl rfl rfl (by first | (simp only [a0g]; done) | (simp only [a0g, PT.len]; done)) ap11 (PT.one _) ?_
   intro w3 st3
   clear st2
   go_wp2_with fail
   refine wp_region_noPanic ?_
   refine a0k st3 7 [.t 0, .w 1, .t 3, .c 2, .c 4, .w 5, .w 6] (.m 7 .nil) ap0 ap0 (fun _ _ _ _ _ h => h) ?_
   clear st3
   refine a0P (v := ?_) rfl rfl (fun xq wx hS => ?_) ?_
   rotate_left 1
   ·(have hc := (HGB.out.keep (St.fr hS) HNE.out).cell (show [Value.slice (some ⟨gT, 0, none⟩) n n][0]? = _ from rfl); clear hS; go_simp; with_reducible rfl)
   try simp only [clL]
   refine a0n rfl rfl apX ?_
   try simp only [clL]
   refine a0j rfl rfl rfl (fun _ => rfl) ((rdT l).L) (fun wx hS => St.rangeL hS 2 rfl 0 _ dZl) Tryz.underlying174 rfl ap11 ?_
   try simp only [clL]
   refine c0c (X := Nat) (fun gc => .pointer (some ⟨gc, 0, none⟩)) (fun gc w => Cv w gc) (fun _ _ _ h k => h.keep k) rfl rfl rfl Tryz.call108 (fun w hS hR => u0V _) (fun _ => rfl) fun gc => ?_
   try simp only [clL]
   refine a0l rfl rfl rfl Tryz.call111 (fun w hS hR => m0t (rdT l) gc _ hR.2) (fun _ => rfl) ?_
   try simp only [clL]
   refine a0n rfl rfl apX ?_
   try simp only [clL]
   refine a0n rfl rfl apX ?_
   try simp only [clL]
   refine a0J fun xq w4 st4 hR => ?_
   try dsimp only
   clear hR xq
   refine a0o rfl rfl ?_
   refine h0B st4 0 rfl rfl rfl rfl (tmF n a (tkT ls (k + 1))) (w0Q n a ls k HLT.out l HLL.out) (by rw [r0y n a _ (r0z ls k), b0Q]; have := HLT.out; omega) (by first | (rw [a0g]; kernel_rfl) | (simp only [b0Q]; kernel_rfl)) (r0a _ _) ?_
   intro w5 st5
   have st5 : St (One gT) w w5 [(gT, tmF n a (tkT ls (k + 1)), 181), (g3, cw 12 0, 174), (g5, (rdT l).L, 174)] := st5
   clear st4
   try simp only [Act.put]
   refine a0e ?_
   refine NoPanic.normal ?_
   go_wp2_with fail
   go_roundw
   case rel => exact ⟨k + 1, by have := HLT.out; omega, by go_num, St.less st5 ap4⟩
   case measure => have := HLT.out; simp [intOf]; omega
  ·have hltI : ¬ ((k : Int) < (n : Int)) := by omega
   have hkn : k = ls.length := by rw [HLS.out]; omega
   have hnl : n = ls.length := HLS.out.symm
   subst hkn
   have HNL := qH hnl
   clear hnl
   have hHT := st.at 0 rfl
   clear hHT
   go_wp2_with fail
   refine wp_region_noPanic ?_
   refine a0k st 3 [.t 1, .c 0, .c 2] (.m 3 .nil) ap0 ap0 (fun _ _ _ _ _ h => h) ?_
   clear st
   refine a0P (v := ?_) rfl rfl (fun xq wx hS => ?_) ?_
   rotate_left 1
   ·(have hc := (HGB.out.keep (St.fr hS) HNE.out).cell (show [Value.slice (some ⟨gT, 0, none⟩) n n][0]? = _ from rfl); clear hS; go_simp; with_reducible rfl)
   try simp only [clL]
   refine c0c (X := Nat) (fun gc => .pointer (some ⟨gc, 0, none⟩)) (fun gc w => Cv w gc) (fun _ _ _ h k => h.keep k) rfl rfl rfl Tryz.call108 (fun w hS hR => u0V _) (fun _ => rfl) fun gc => ?_
   try simp only [clL]
   refine a0l rfl rfl rfl Tryz.call110 (fun w hS hR => A0m (l0C a ls) gc (some ⟨gT, 0, none⟩) n n _ hR.2 (by rw [n0E]; exact HLS.out) HN.out (y0W (by have h := St.at hS 0 rfl; rw [HNL.out] at h; exact h))) (fun _ => rfl) ?_
   try simp only [clL]
   refine a0J fun xq w2 st2 hR => ?_
   try dsimp only
   clear hR xq
   refine a0o rfl rfl ?_
   refine a0i st2 1 rfl rfl rfl rfl (by first | (simp only [a0g]; done) | (simp only [a0g, PT.len]; done)) ap11 (PT.one _) ?_
   intro w3 st3
   try simp only [List.set_cons_zero, List.set_cons_succ] at st3
   clear st2
   try simp only [Act.put]
   refine a0e ?_
   refine NoPanic.normal ?_
   have hr := st3.at 1 rfl
   have hfr := st3.fr
   clear st3
   go_wp2_with fail
   exact bodyPost_ret (a0y rfl rfl hr Tryz.underlying174 rfl ap11) rfl ⟨rfl, hfr⟩
end
end Go.Proofs.YtpfimiajoifjaaaGreat
namespace Go.Mv
open Go.RowKit
theorem Has.neT {w : World} {g g' : Nat} {L L' : List Value} {T T' : TypeId} (h : Has w g L T) (k : Has w g' L' T') (hT : T ≠ T') : g ≠ g' := by
 rintro rfl
 obtain ⟨_, _, h1, _⟩ := h
 obtain ⟨_, _, h2, _⟩ := k
 rw [h1] at h2
 simp only [Option.some.injEq, Obj.cells.injEq] at h2
 exact hT h2.2.1
end Go.Mv
namespace Go.Proofs.YtpfimiajoifjaaaGreat
open Go.RowKit Go.Mv Mvp Mvq
theorem Cv.keepT {w w' : World} {gc gT : Nat} {L : List Value} (h : Cv w gc) (hT : Has w gT L 181) (hf : Fr (One gT) w w') : Cv w' gc := by
 obtain ⟨gp, h1, h2⟩ := h
 exact ⟨gp, h1.keep hf (fun e => h1.neT hT ap2 e), h2.keep hf (fun e => h2.neT hT ap2 e)⟩
attribute [local irreducible] a0v lw mix cw b0e b0f b0a beN b0l b0b a0z a0F elN mdL b0m rtN rtV b0J gXn gYn PT.L j0V j0x e0G tbL tmR tmL dbN g0G g0q j0W dig rdT b0s c0Q ptL g0u c0z c0m
theorem m0y (gk : Nat) (al : Option Addr) (n cl : Nat) (vs : List Value) (ls : List (List UInt8)) (w : World) (hv : Rd w al n vs) (hp : BParts w vs ls) (hn : n ≤ 100000) (hg : c0z ls = true) (gT : Nat) (LT : List Value) (hgt : Has w gT LT 181) (t : PT) (hop : ∀ ap cp wx, Fr Nob w wx → Off (One gT) ap → Rd wx ap (ls.length * 12) (g0u ls) → Calls Tryz.prog 201 #[.slice ap ls.length cp, .pointer (some ⟨gk, 0, none⟩)] wx fun e w' => e = .returned (.agg t.L.toArray) ∧ Fr (One gT) wx w') :
  Calls Tryz.prog 200 #[.func (.func 201) #[] #[.pointer (some ⟨gk, 0, none⟩)], .slice al n cl] w fun e w' => ∃ sv, e = .returned (.tuple #[sv, .int .i64 0]) ∧ Own w' w.heap.size 5 1 sv 33 (bs (c0m t.pt)) ∧ Fr (One gT) w w' := by
 have HV := qH hv
 have HP := qH hp
 have HL := qH (show ls.length = n by rw [← hp.1, hv.len])
 have HN := qH hn
 have hnI : (n : Int) ≤ 100000 := by omega
 clear hv hp
 have HOP := qH hop
 have HGA := qH hg
 have HGT := qH hgt
 clear hop hg hgt
 go_enter Tryz.func200, Tryz.ntmps200
 go_wp2
 go_loopw [6, 13] (fun v i wr => ∃ k : Nat, k ≤ n ∧ i = .int .i64 (k : Int) ∧ c0z (ls.take k) = true ∧ Own wr w.heap.size 174 12 v k (g0u (ls.take k)) ∧ Fr Nob w wr) (fun _ i _ => n - (intOf i).toNat)
 case atStart => exact ⟨0, Nat.zero_le _, rfl, by rw [List.take_zero]; unfold c0z; rfl, by rw [List.take_zero]; unfold g0u; exact Own.nil _ _ _ _, Fr.refl _ _⟩
 case round =>
  obtain ⟨k, hk, rfl, hgood, hown, hf⟩ := hrel
  by_cases hlt : k < n
  ·have hltI : (k : Int) < (n : Int) := by omega
   obtain ⟨b, o, rfl, hat⟩ := (HV.out.still hf).at ap1
   have hvl : k < vs.length := by rw [HV.out.len]; exact hlt
   obtain ⟨a, nn, c, hve, hcc, hrd⟩ := HP.out.2 k (vs[k]'hvl) (List.getElem?_eq_getElem hvl)
   have hc1 := hat k _ (List.getElem?_eq_getElem hvl)
   rw [hve] at hc1
   have hlk : k < ls.length := by rw [HL.out]; exact hlt
   have hts := k0X ls k hlk
   have hcs : g0u (ls.take (k + 1)) = g0u (ls.take k) ++ (rdT (ls.getD k [])).L := by
    rw [List.take_succ_eq_append_getElem hlk, k0W]
    simp [List.getD_eq_getElem?_getD, hlk]
   have hbad := n0B ls k hlk
   generalize hL : ls.getD k [] = l at *
   have HLL := qH hL
   have HRD := qH (hrd.still hf)
   have HTS := qH hts
   have HCS := qH hcs
   have HBAD := qH hbad
   have HG := qH hgood
   have HOWN := qH hown
   have HF := qH hf
   have HCC := qH hcc
   clear hL hrd hts hcs hbad hgood hown hf hat hve hcc
   have st0 := St.start Nob wr
   have HK := qH (show b0s l = true by
    cases hh : b0s l
    ·have := HBAD.out hh
     rw [HGA.out] at this
     cases this
    ·rfl)
   skip
   go_wp2_with fail
   refine (f0B _).mono ?_
   rintro e' w1 ⟨gc, rfl, hle, hcv, hf1⟩
   have st1 := st0.keep hf1
   have HCV := qH hcv
   clear hcv hle
   clear st0 hf1
   go_wp2_with fail
   refine (r0o l HK.out gc a nn c _ HCV.out (HRD.out.still st1.fr) HCC.out).mono ?_
   rintro e' w2 ⟨rfl, hf2⟩
   have st2 := st1.keep hf2
   clear st1 hf2
   go_wp2_with (with_reducible refine wSk 9 ?_)
   refine a0b st2 rfl rfl (z := .agg (List.replicate 12 (.int .u64 0)).toArray) ap0 (cw 12 0) ap5 ?_
   intro g9 w3 st3
   clear st2
   go_wp2_with (with_reducible refine wSn ?_)
   refine a0c st3 0 rfl rfl rfl rfl rfl ap12 ap11 (PT.one _) ?_
   intro w4 st4
   clear st3
   have HFS := qH st4.fr
   go_wp2_with (with_reducible refine wSk 26 ?_)
   refine a0s st4 0 rfl rfl rfl Tryz.underlying174 rfl rfl ap11 ?_
   clear st4
   go_wp2_with (with_reducible refine wSk 27 ?_)
   refine g0y rfl rfl Tryz.underlying279 j0D [.agg (rdT l).L.toArray] rfl (by simp [Value.cells, PT.len]) rfl ((rdT l).L) (by simp [Value.cells]) ?_
   intro wA hgA hfA hzA
   clear hzA
   have hfrA := HFS.out.then hfA
   have hsz := HF.out.size
   have hsz2 := hfrA.size
   have hownA := HOWN.out.still hfrA
   have hrdA : Rd wA (some ⟨w4.heap.size, 0, none⟩) (1 * 12) ((rdT l).L) := by
    have := Rd.whole hgA
    rwa [PT.len] at this
   have HRDA := qH hrdA
   have HOWNA := qH hownA
   have HFRA := qH hfrA
   clear hgA hfA hrdA hownA hfrA
   generalize w4.heap.size = gA at *
   go_wp2_with (with_reducible refine wSk 28 ?_)
   refine c0p rfl rfl Tryz.underlying279 j0D rfl ap2 HOWNA.out rfl rfl HRDA.out (PT.one _) ap9 ap1 ap1 ?_
   intro vB wB hownB hfB hbB
   clear hbB
   have hfrB := HOWNA.out.fr (HF.out.then HFRA.out) (Nat.le_refl _) hfB
   have HFRB := qH hfrB
   rw [← HCS.out] at hownB
   have HOWNB := qH hownB
   clear hfrB hownB hfB
   go_wp2_with fail
   go_roundw
   case rel => exact ⟨k + 1, by omega, by go_num, by rw [HTS.out, HG.out, HK.out]; rfl, HOWNB.out, HFRB.out⟩
   case measure => simp [intOf]; omega
  ·have hge : ¬ ((k : Int) < (n : Int)) := by omega
   have hkn : k = ls.length := by rw [HL.out]; omega
   rw [hkn, List.take_of_length_le (Nat.le_refl _)] at hgood hown
   obtain ⟨ap, cp, rfl, -, hre, hbase⟩ := hown.form
   have HOFF := qH (show Off (One gT) ap from fun x hx he => by have h1 := hbase x hx; have h2 := HGT.out.lt; have h3 : x.block = gT := he; omega)
   clear hbase
   have HRE := qH hre
   have HF := qH hf
   clear hkn hgood hown hf hre
   go_wp2_with fail
   refine (f0B _).mono ?_
   rintro e w1 ⟨gc, rfl, hle, hcv, hf1⟩
   have HCV := qH hcv
   have HF1 := qH (HF.out.then hf1)
   have HRE1 := qH (HRE.out.still hf1)
   clear hle hcv hf1 HF HRE
   go_wp2_with fail
   refine (HOP.out ap cp _ HF1.out HOFF.out HRE1.out).mono ?_
   rintro e w2 ⟨rfl, hf2⟩
   have HCV2 := qH (HCV.out.keepT (HGT.out.keep HF1.out id) hf2)
   have HF2 := qH ((HF1.out.mono (fun _ _ t => t.elim)).trans hf2 (fun _ _ t => t))
   clear hf2 HF1 HRE1 HCV
   go_wp2_with fail
   refine (r0p t gc _ HCV2.out).mono ?_
   rintro e w3 ⟨sv, rfl, hown3, hf3⟩
   have h2 := HF2.out.same hf3
   have ho := hown3.mono HF2.out.size
   clear hown3 hf3 HF2 HCV2
   go_wp2_with fail
   go_ret2
   exact ⟨sv, rfl, ho, h2⟩
theorem l0a (gk : Nat) (al : Option Addr) (n cl : Nat) (vs : List Value) (ls : List (List UInt8)) (w : World) (hv : Rd w al n vs) (hp : BParts w vs ls) (hn : n ≤ 100000) (hg : c0z ls = false) :
  Calls Tryz.prog 200 #[.func (.func 201) #[] #[.pointer (some ⟨gk, 0, none⟩)], .slice al n cl] w fun e w' => e = .returned (.tuple #[.slice none 0 0, .int .i64 4]) ∧ Fr Nob w w' := by
 have HV := qH hv
 have HP := qH hp
 have HL := qH (show ls.length = n by rw [← hp.1, hv.len])
 have HN := qH hn
 have hnI : (n : Int) ≤ 100000 := by omega
 clear hv hp
 have HGA := qH hg
 clear hg
 go_enter Tryz.func200, Tryz.ntmps200
 go_wp2
 go_loopw [6, 13] (fun v i wr => ∃ k : Nat, k ≤ n ∧ i = .int .i64 (k : Int) ∧ c0z (ls.take k) = true ∧ Own wr w.heap.size 174 12 v k (g0u (ls.take k)) ∧ Fr Nob w wr) (fun _ i _ => n - (intOf i).toNat)
 case atStart => exact ⟨0, Nat.zero_le _, rfl, by rw [List.take_zero]; unfold c0z; rfl, by rw [List.take_zero]; unfold g0u; exact Own.nil _ _ _ _, Fr.refl _ _⟩
 case round =>
  obtain ⟨k, hk, rfl, hgood, hown, hf⟩ := hrel
  by_cases hlt : k < n
  ·have hltI : (k : Int) < (n : Int) := by omega
   obtain ⟨b, o, rfl, hat⟩ := (HV.out.still hf).at ap1
   have hvl : k < vs.length := by rw [HV.out.len]; exact hlt
   obtain ⟨a, nn, c, hve, hcc, hrd⟩ := HP.out.2 k (vs[k]'hvl) (List.getElem?_eq_getElem hvl)
   have hc1 := hat k _ (List.getElem?_eq_getElem hvl)
   rw [hve] at hc1
   have hlk : k < ls.length := by rw [HL.out]; exact hlt
   have hts := k0X ls k hlk
   have hcs : g0u (ls.take (k + 1)) = g0u (ls.take k) ++ (rdT (ls.getD k [])).L := by
    rw [List.take_succ_eq_append_getElem hlk, k0W]
    simp [List.getD_eq_getElem?_getD, hlk]
   have hbad := n0B ls k hlk
   generalize hL : ls.getD k [] = l at *
   have HLL := qH hL
   have HRD := qH (hrd.still hf)
   have HTS := qH hts
   have HCS := qH hcs
   have HBAD := qH hbad
   have HG := qH hgood
   have HOWN := qH hown
   have HF := qH hf
   have HCC := qH hcc
   clear hL hrd hts hcs hbad hgood hown hf hat hve hcc
   have st0 := St.start Nob wr
   rcases Bool.eq_false_or_eq_true (b0s l) with hh | hh
   ·have HK := qH hh
    clear hh
    skip
    go_wp2_with fail
    refine (f0B _).mono ?_
    rintro e' w1 ⟨gc, rfl, hle, hcv, hf1⟩
    have st1 := st0.keep hf1
    have HCV := qH hcv
    clear hcv hle
    clear st0 hf1
    go_wp2_with fail
    refine (r0o l HK.out gc a nn c _ HCV.out (HRD.out.still st1.fr) HCC.out).mono ?_
    rintro e' w2 ⟨rfl, hf2⟩
    have st2 := st1.keep hf2
    clear st1 hf2
    go_wp2_with (with_reducible refine wSk 9 ?_)
    refine a0b st2 rfl rfl (z := .agg (List.replicate 12 (.int .u64 0)).toArray) ap0 (cw 12 0) ap5 ?_
    intro g9 w3 st3
    clear st2
    go_wp2_with (with_reducible refine wSn ?_)
    refine a0c st3 0 rfl rfl rfl rfl rfl ap12 ap11 (PT.one _) ?_
    intro w4 st4
    clear st3
    have HFS := qH st4.fr
    go_wp2_with (with_reducible refine wSk 26 ?_)
    refine a0s st4 0 rfl rfl rfl Tryz.underlying174 rfl rfl ap11 ?_
    clear st4
    go_wp2_with (with_reducible refine wSk 27 ?_)
    refine g0y rfl rfl Tryz.underlying279 j0D [.agg (rdT l).L.toArray] rfl (by simp [Value.cells, PT.len]) rfl ((rdT l).L) (by simp [Value.cells]) ?_
    intro wA hgA hfA hzA
    clear hzA
    have hfrA := HFS.out.then hfA
    have hsz := HF.out.size
    have hsz2 := hfrA.size
    have hownA := HOWN.out.still hfrA
    have hrdA : Rd wA (some ⟨w4.heap.size, 0, none⟩) (1 * 12) ((rdT l).L) := by
     have := Rd.whole hgA
     rwa [PT.len] at this
    have HRDA := qH hrdA
    have HOWNA := qH hownA
    have HFRA := qH hfrA
    clear hgA hfA hrdA hownA hfrA
    generalize w4.heap.size = gA at *
    go_wp2_with (with_reducible refine wSk 28 ?_)
    refine c0p rfl rfl Tryz.underlying279 j0D rfl ap2 HOWNA.out rfl rfl HRDA.out (PT.one _) ap9 ap1 ap1 ?_
    intro vB wB hownB hfB hbB
    clear hbB
    have hfrB := HOWNA.out.fr (HF.out.then HFRA.out) (Nat.le_refl _) hfB
    have HFRB := qH hfrB
    rw [← HCS.out] at hownB
    have HOWNB := qH hownB
    clear hfrB hownB hfB
    go_wp2_with fail
    go_roundw
    case rel => exact ⟨k + 1, by omega, by go_num, by rw [HTS.out, HG.out, HK.out]; rfl, HOWNB.out, HFRB.out⟩
    case measure => simp [intOf]; omega
   ·have HK := qH hh
    clear hh
    skip
    go_wp2_with fail
    refine (f0B _).mono ?_
    rintro e' w1 ⟨gc, rfl, hle, hcv, hf1⟩
    have st1 := st0.keep hf1
    have HCV := qH hcv
    clear hcv hle
    clear st0 hf1
    go_wp2_with fail
    refine (u0U l HK.out gc a nn c _ HCV.out (HRD.out.still st1.fr) HCC.out).mono ?_
    rintro e' w2 ⟨⟨X, Y, Z, rfl⟩, hf2⟩
    have st2 := st1.keep hf2
    clear st1 hf2
    go_wp2_with (with_reducible refine wSk 9 ?_)
    refine a0b st2 rfl rfl (z := .agg (List.replicate 12 (.int .u64 0)).toArray) ap0 (cw 12 0) ap5 ?_
    intro g9 w3 st3
    clear st2
    go_wp2_with (with_reducible refine wSn ?_)
    refine a0c st3 0 rfl rfl rfl rfl rfl ap12 (by first | (rw [a0g]; kernel_rfl) | (simp only [e0p]; kernel_rfl)) (r0q _ _ _ _) ?_
    intro w4 st4
    clear st3
    have HFS := qH (HF.out.then st4.fr)
    clear st4
    go_wp2_with fail
    go_ret2
    exact ⟨rfl, HFS.out⟩
  ·exfalso
   have hkn : k = ls.length := by rw [HL.out]; omega
   rw [hkn, List.take_of_length_le (Nat.le_refl _), HGA.out] at hgood
   cases hgood
end Go.Proofs.YtpfimiajoifjaaaGreat
