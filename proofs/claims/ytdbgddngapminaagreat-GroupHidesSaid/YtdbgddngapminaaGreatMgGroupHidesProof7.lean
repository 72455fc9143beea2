/- group: bytes; A plan for a region whose operations have guards; group: read; read and bytes of a program's points; group: with, over a closure's contract; the closures of Plus, Minus and Times; group: the closures of Plus, Minus and Times; scalar; group: Plus, Minus, Times, Point, Base: what they answer; group's exported functions, for all bytes: what they answer, told by points; mintvaultref1.Still: is a list all as it was lent?; Pure sponge: what the program's and the reference's permutation compute, and that the two are one; word functions of the sponge; the constants of the rounds, and how far the lanes are turned; how far the lanes are turned; the state: bytes are added, and given; the state's bytes; Permute; the permutation of the program; the reference's round; Pure sponge: the permutation of bytes, both ways; Permute, the program's and the reference's; Permute of the reference; Pure sponge: bytes are fed one by one; the sponge and what is hashed with it. -/
import Derived.Test.YtdbgddngapminaaGreatMgGroupHidesProof6
import Derived.Test.YtdbgddngapminaaGreatMgGroupHidesProof3
import Derived.Test.YtdbgddngapminaaGreatMgGroupHidesProof1
import Derived.Test.YtdbgddngapminaaGreatMgGroupHidesProof2
import Derived.KernelRfl
namespace Go.Proofs.YtdbgddngapminaaGreat
open Go.RowKit Go.Mv Mvp Mvq
theorem zeros_bs (n : Nat) : List.replicate n (Value.int .u8 0) = bs (List.replicate n 0) := by simp [bs]
theorem zeros_app : splice (bs (List.replicate 33 0)) 1 (List.replicate 32 (Value.int .u8 0)) = bs (List.replicate 33 0) := by rfl
def bb1 (b : Nat) : List Value := bs ([UInt8.ofNat b] ++ List.replicate 32 0)
def bb2 (b X : Nat) : List Value := bs (UInt8.ofNat b :: be32 X)
theorem bb1_len (b : Nat) : (bb1 b).length = 33 := by unfold bb1; rw [length_bs]; simp
theorem bb2_len (b X : Nat) : (bb2 b X).length = 33 := by unfold bb2; rw [length_bs, List.length_cons, be32_len]
theorem bytes_splice (b X : Nat) : splice (bb1 b) 1 (bs (be32 X)) = bb2 b X := by
  unfold bb1 bb2
  rw [bs_append, splice_end _ _ _ 1 (by simp [bs]) (by rw [length_bs, length_bs, be32_len]; rfl), ← bs_append]; rfl
theorem zeros_set (b : Nat) (hb : b < 256) : (bs (List.replicate 33 0)).set 0 (.int .u8 (b : Int)) = bb1 b := by
  unfold bb1
  have h := bs_set (List.replicate 33 0) 0 (UInt8.ofNat b)
  rw [show ((UInt8.ofNat b).toNat : Int) = (b : Int) by rw [UInt8.toNat_ofNat']; omega] at h
  rw [h]; rfl
theorem or_two (b : Nat) (h : b = 0 ∨ b = 1) : bits .or .u8 2 (b : Int) = ((2 + b : Nat) : Int) := by
  rcases h with rfl | rfl <;> decide
attribute [local irreducible] limbs lw mix cw cSub cAdd cMul foldC valFrom beN laid be32 powm montT mstep elN mdL numB rtN rtV rtOk gXn gYn bb1 bb2
set_option maxHeartbeats 16000000 in
set_option maxRecDepth 1000000 in
theorem bytes_none (m : Md) (gc gp bx by_ : Nat) (w : World) (hok : m.Ok) (hcv : Has w gc (crvL m gp bx by_) 62) (hpm : Has w gp (mdL m) 112) (x y z : Nat) (hb : (z % m.M == 0) = true) :
    Calls Tryz.prog 25 #[.pointer (some ⟨gc, 0, none⟩), ptV m x y z] w fun e w' => ∃ sv, e = .returned sv ∧ Own w' w.heap.size 5 1 sv 33 (bs (List.replicate 33 0)) ∧ Fr Nob w w' := by
  have HOK := Lib.hid hok
  have HCV := Lib.hid hcv
  have HPM := Lib.hid hpm
  clear hok hcv hpm
  have HB := Lib.hid hb
  clear hb
  unfold ptV ptL
  have st0 := St.start Nob w
  go_enter Tryz.func25, Tryz.ntmps25
  go_wp2_with (with_reducible refine wl_stop (o := ⟨some 3, _, _, _, _, _⟩) ?_)
  refine wl_boxS st0 rfl rfl rfl (cw 4 (elN m x) ++ (cw 4 (elN m y) ++ cw 4 (elN m z))) rfl ?_
  intro g3 w1 st1
  clear st0
  go_wp2_with (with_reducible refine wl_stop (o := ⟨some 9, _, _, _, _, _⟩) ?_)
  refine wl_make rfl rfl Tryz.underlying22 info_u8 rfl rfl rfl 1 33 (by simp) (by simp) (by omega) (by omega) (by unfold maxLen; omega) ?_
  intro w2 hg2 hf2 hz2
  clear hz2
  have st2 := st1.new hf2 hg2 (Nat.le_refl _)
  have hb2 := st1.fr.size
  skip
  clear st1 hg2 hf2
  generalize w1.heap.size = gb at *
  have HBB := Lib.hid hb2
  clear hb2
  rw [zeros_bs] at st2
  go_wp2_with (with_reducible refine wl_stop (o := ⟨some 10, _, _, _, _, _⟩) ?_)
  refine wl_loadSt st2 0 rfl rfl rfl Tryz.underlying60 rfl rfl (by first | (rw [cw_len]; kernel_rfl) | (simp only [List.length_append, cw_len]; kernel_rfl)) ?_
  go_wp2_with fail
  refine (none_any m HOK.out x y z true HB.out _).mono ?_
  rintro e' w3 ⟨rfl, hf3⟩
  have st3 := st2.keep hf3
  clear st2 hf3
  go_wp2_with (with_reducible refine wl_stop (o := ⟨some 13, _, _, _, _, _⟩) ?_)
  refine wl_append_zeros st3 1 rfl rfl rfl Tryz.underlying22 Tryz.underlying3 info_u8 rfl rfl (n := 1) (m := 32) (cap := 33) rfl rfl (by decide) (by decide) (by decide) (by rw [length_bs, List.length_replicate]; decide) (bs (List.replicate 33 0)) zeros_app ?_
  intro w4 st4
  clear st3
  have hown : Own w4 w.heap.size 5 1 (.slice (some ⟨gb, 0, none⟩) 33 33) 33 (bs (List.replicate 33 0)) := by
    have h := st4.at 1 rfl
    exact Own.made h w.heap.size HBB.out 1 33 33 (Nat.le_refl _) (by unfold maxLen; omega) (by decide)
  have hfr := st4.fr
  clear st4
  go_wp2_with fail
  go_ret
  exact ⟨_, rfl, hown, hfr⟩

theorem MInv_v (m : Md) (gp : Nat) (w : World) (hok : m.Ok) (hpm : Has w gp (mdL m) 112) (x r : Nat) (hr : x ^ (m.M - 2) = r) :
    Calls Tryz.prog 62 #[.pointer (some ⟨gp, 0, none⟩), i4 (elN m x)] w fun e w' => e = .returned (i4 (elN m r)) ∧ Fr Nob w w' := by
  subst hr; exact MInv_any m gp w hok hpm x
theorem MFrom_v (m : Md) (gp : Nat) (w : World) (hok : m.Ok) (hpm : Has w gp (mdL m) 112) (x r : Nat) (hr : x % m.M = r) :
    Calls Tryz.prog 64 #[.pointer (some ⟨gp, 0, none⟩), i4 (elN m x)] w fun e w' => e = .returned (i4 r) ∧ Fr Nob w w' := by
  subst hr; exact MFrom_any m gp w hok hpm x
set_option maxHeartbeats 16000000 in
set_option maxRecDepth 1000000 in
theorem bytes_v (m : Md) (gc gp bx by_ : Nat) (w : World) (hok : m.Ok) (hcv : Has w gc (crvL m gp bx by_) 62) (hpm : Has w gp (mdL m) 112) (x y z : Nat) (hb : (z % m.M == 0) = false) (i ii i3 yy v xx u : Nat) (ei : z ^ (m.M - 2) = i) (eii : i * i = ii) (ei3 : ii * i = i3) (eyy : y * i3 = yy) (ev : yy % m.M = v) (exx : x * ii = xx) (eu : xx % m.M = u) :
    Calls Tryz.prog 25 #[.pointer (some ⟨gc, 0, none⟩), ptV m x y z] w fun e w' => ∃ sv, e = .returned sv ∧ Own w' w.heap.size 5 1 sv 33 (bs (UInt8.ofNat (2 + v % 2) :: be32 u)) ∧ Fr Nob w w' := by
  have HOK := Lib.hid hok
  have HCV := Lib.hid hcv
  have HPM := Lib.hid hpm
  clear hok hcv hpm
  have HB := Lib.hid hb
  have Hi := Lib.hid ei
  have Hii := Lib.hid eii
  have Hi3 := Lib.hid ei3
  have Hyy := Lib.hid eyy
  have Hv := Lib.hid ev
  have Hxx := Lib.hid exx
  have Hu := Lib.hid eu
  clear hb ei eii ei3 eyy ev exx eu
  unfold ptV ptL
  have st0 := St.start Nob w
  go_enter Tryz.func25, Tryz.ntmps25
  go_wp2_with (with_reducible refine wl_stop (o := ⟨some 3, _, _, _, _, _⟩) ?_)
  refine wl_boxS st0 rfl rfl rfl (cw 4 (elN m x) ++ (cw 4 (elN m y) ++ cw 4 (elN m z))) rfl ?_
  intro g3 w1 st1
  clear st0
  go_wp2_with (with_reducible refine wl_stop (o := ⟨some 9, _, _, _, _, _⟩) ?_)
  refine wl_make rfl rfl Tryz.underlying22 info_u8 rfl rfl rfl 1 33 (by simp) (by simp) (by omega) (by omega) (by unfold maxLen; omega) ?_
  intro w2 hg2 hf2 hz2
  clear hz2
  have st2 := st1.new hf2 hg2 (Nat.le_refl _)
  have hb2 := st1.fr.size
  skip
  clear st1 hg2 hf2
  generalize w1.heap.size = gb at *
  have HBB := Lib.hid hb2
  clear hb2
  rw [zeros_bs] at st2
  go_wp2_with (with_reducible refine wl_stop (o := ⟨some 10, _, _, _, _, _⟩) ?_)
  refine wl_loadSt st2 0 rfl rfl rfl Tryz.underlying60 rfl rfl (by first | (rw [cw_len]; kernel_rfl) | (simp only [List.length_append, cw_len]; kernel_rfl)) ?_
  go_wp2_with fail
  refine (none_any m HOK.out x y z false HB.out _).mono ?_
  rintro e' w3 ⟨rfl, hf3⟩
  have st3 := st2.keep hf3
  clear st2 hf3
  go_wp2_with fail
  refine wp_region_noPanic ?_
  refine wp_region_plan (fun wx => St Nob w wx [(g3, cw 4 (elN m x) ++ (cw 4 (elN m y) ++ cw 4 (elN m z)), 60), (gb, bs (List.replicate 33 0), 5)]) 8 (.w 0 (.w 1 (.w 2 (.t 3 (.w 4 (.t 5 (.b 6 7 (.r 7 (.m 8 .nil)) (.r 6 (.m 8 .nil))))))))) (by kernel_rfl) (by kernel_rfl) st3.drew (fun _ _ _ _ _ h => h) ?_
  have hd3 := st3.drew
  clear st3
  refine plan_w (v := ?_) rfl rfl (fun wx => ?_) ?_
  rotate_left 1
  · (go_simp; with_reducible rfl)
  try simp only [Act.put, List.setIfInBounds_toArray, List.set_cons_zero, List.set_cons_succ]
  refine plan_w (v := ?_) rfl rfl (fun wx => ?_) ?_
  rotate_left 1
  · (go_simp; with_reducible rfl)
  try simp only [Act.put, List.setIfInBounds_toArray, List.set_cons_zero, List.set_cons_succ]
  refine plan_w (v := ?_) rfl rfl (fun wx => ?_) ?_
  rotate_left 1
  · (go_simp; with_reducible rfl)
  try simp only [Act.put, List.setIfInBounds_toArray, List.set_cons_zero, List.set_cons_succ]
  refine plan_t (v := ?_) rfl rfl (fun wx hS => ?_) ?_
  rotate_left 1
  · (have hc := (HCV.out.keep (St.fr hS) id).cell (i := 0) rfl; clear hS; go_simp; with_reducible rfl)
  try simp only [Act.put, List.setIfInBounds_toArray, List.set_cons_zero, List.set_cons_succ]
  refine plan_w (v := ?_) rfl rfl (fun wx => ?_) ?_
  rotate_left 1
  · (go_simp; with_reducible rfl)
  try simp only [Act.put, List.setIfInBounds_toArray, List.set_cons_zero, List.set_cons_succ]
  refine plan_arr rfl rfl rfl rfl (cw 4 (elN m z)) (fun wx hS => St.rangeL hS 0 rfl 8 _ (pt_z _ _ _)) Tryz.underlying58 rfl (by first | (rw [cw_len]; kernel_rfl) | (simp only [List.length_append, cw_len]; kernel_rfl)) ?_
  try simp only [Act.put, List.setIfInBounds_toArray, List.set_cons_zero, List.set_cons_succ]
  refine plan_key1 (C := fun g6 wz => St Nob w wz [(g3, cw 4 (elN m x) ++ (cw 4 (elN m y) ++ cw 4 (elN m z)), 60), (gb, bs (List.replicate 33 0), 5), (g6, cw 4 (elN m i), 58)]) (F := ?_) (fun key => ?_) ?_
  rotate_left 1
  · skip
    refine plan_b0 rfl rfl rfl rfl ?_ ?_
    · skip
      go_simp
      refine (MInv_v m gp _ HOK.out (HPM.out.keep hd3.fr id) z i Hi.out).mono ?_
      rintro e' w4 ⟨rfl, hf4⟩
      have st4 := hd3.keep hf4
      clear hf4
      refine ⟨st4, ?_⟩
      try simp only [Act.put, List.setIfInBounds_toArray, List.set_cons_zero, List.set_cons_succ]
      refine plan_r rfl rfl ?_
      refine wp_allocS st4 rfl (z := .agg #[.int .u64 0, .int .u64 0, .int .u64 0, .int .u64 0]) (by kernel_rfl) (cw 4 0) (by rw [cw_zero]; rfl) ?_
      intro g6 w5 st5
      refine ⟨St.less st5 (by simp), ?_⟩
      try simp only [Act.put, List.setIfInBounds_toArray, List.set_cons_zero, List.set_cons_succ]
      refine plan_m rfl rfl ?_
      refine wp_storeS st5 2 rfl rfl rfl rfl (by first | (simp only [cw_len]; done) | (simp only [List.length_append, cw_len]; done)) (by first | (rw [cw_len]; kernel_rfl) | (simp only [List.length_append, cw_len]; kernel_rfl)) (cw_one _ _) ?_
      intro w6 st6
      try simp only [Act.put]
      refine plan_end ?_
      exact key g6 _ st6
    · skip
      refine wp_allocS hd3 rfl (z := .agg #[.int .u64 0, .int .u64 0, .int .u64 0, .int .u64 0]) (by kernel_rfl) (cw 4 0) (by rw [cw_zero]; rfl) ?_
      intro g6 w7 st7
      refine ⟨St.less st7 (by simp), ?_⟩
      try simp only [Act.put, List.setIfInBounds_toArray, List.set_cons_zero, List.set_cons_succ]
      refine plan_r rfl rfl ?_
      go_simp
      refine (MInv_v m gp _ HOK.out (HPM.out.keep st7.fr id) z i Hi.out).mono ?_
      rintro e' w8 ⟨rfl, hf8⟩
      have st8 := st7.keep hf8
      clear hf8
      refine ⟨St.less st8 (by simp), ?_⟩
      try simp only [Act.put, List.setIfInBounds_toArray, List.set_cons_zero, List.set_cons_succ]
      refine plan_m rfl rfl ?_
      refine wp_storeS st8 2 rfl rfl rfl rfl (by first | (simp only [cw_len]; done) | (simp only [List.length_append, cw_len]; done)) (by first | (rw [cw_len]; kernel_rfl) | (simp only [List.length_append, cw_len]; kernel_rfl)) (cw_one _ _) ?_
      intro w9 st9
      try simp only [Act.put]
      refine plan_end ?_
      exact key g6 _ st9
  intro g6 w10 st10
  have st10 : St Nob w w10 [(g3, cw 4 (elN m x) ++ (cw 4 (elN m y) ++ cw 4 (elN m z)), 60), (gb, bs (List.replicate 33 0), 5), (g6, cw 4 (elN m i), 58)] := st10
  clear hd3
  refine NoPanic.normal ?_
  go_wp2_with fail
  refine wp_region_noPanic ?_
  refine wp_region_plan (fun wx => St Nob w wx [(g3, cw 4 (elN m x) ++ (cw 4 (elN m y) ++ cw 4 (elN m z)), 60), (gb, bs (List.replicate 33 0), 5), (g6, cw 4 (elN m i), 58)]) 7 (.w 0 (.w 1 (.w 2 (.t 3 (.t 4 (.b 5 6 (.r 6 (.m 7 .nil)) (.r 5 (.m 7 .nil)))))))) (by kernel_rfl) (by kernel_rfl) st10.drew (fun _ _ _ _ _ h => h) ?_
  have hd10 := st10.drew
  clear st10
  refine plan_w (v := ?_) rfl rfl (fun wx => ?_) ?_
  rotate_left 1
  · (go_simp; with_reducible rfl)
  try simp only [Act.put, List.setIfInBounds_toArray, List.set_cons_zero, List.set_cons_succ]
  refine plan_w (v := ?_) rfl rfl (fun wx => ?_) ?_
  rotate_left 1
  · (go_simp; with_reducible rfl)
  try simp only [Act.put, List.setIfInBounds_toArray, List.set_cons_zero, List.set_cons_succ]
  refine plan_w (v := ?_) rfl rfl (fun wx => ?_) ?_
  rotate_left 1
  · (go_simp; with_reducible rfl)
  try simp only [Act.put, List.setIfInBounds_toArray, List.set_cons_zero, List.set_cons_succ]
  refine plan_t (v := ?_) rfl rfl (fun wx hS => ?_) ?_
  rotate_left 1
  · (have hc := (HCV.out.keep (St.fr hS) id).cell (i := 0) rfl; clear hS; go_simp; with_reducible rfl)
  try simp only [Act.put, List.setIfInBounds_toArray, List.set_cons_zero, List.set_cons_succ]
  refine plan_arr rfl rfl rfl rfl (cw 4 (elN m i)) (fun wx hS => St.rangeL hS 2 rfl 0 _ (by rw [List.drop_zero, List.take_of_length_le (Nat.le_refl _)])) Tryz.underlying58 rfl (by first | (rw [cw_len]; kernel_rfl) | (simp only [List.length_append, cw_len]; kernel_rfl)) ?_
  try simp only [Act.put, List.setIfInBounds_toArray, List.set_cons_zero, List.set_cons_succ]
  refine plan_key1 (C := fun g7 wz => St Nob w wz [(g3, cw 4 (elN m x) ++ (cw 4 (elN m y) ++ cw 4 (elN m z)), 60), (gb, bs (List.replicate 33 0), 5), (g6, cw 4 (elN m i), 58), (g7, cw 4 (elN m ii), 58)]) (F := ?_) (fun key => ?_) ?_
  rotate_left 1
  · skip
    refine plan_b0 rfl rfl rfl rfl ?_ ?_
    · skip
      go_simp
      refine (MSquare_v m gp _ HOK.out (HPM.out.keep hd10.fr id) i ii Hii.out).mono ?_
      rintro e' w11 ⟨rfl, hf11⟩
      have st11 := hd10.keep hf11
      clear hf11
      refine ⟨st11, ?_⟩
      try simp only [Act.put, List.setIfInBounds_toArray, List.set_cons_zero, List.set_cons_succ]
      refine plan_r rfl rfl ?_
      refine wp_allocS st11 rfl (z := .agg #[.int .u64 0, .int .u64 0, .int .u64 0, .int .u64 0]) (by kernel_rfl) (cw 4 0) (by rw [cw_zero]; rfl) ?_
      intro g7 w12 st12
      refine ⟨St.less st12 (by simp), ?_⟩
      try simp only [Act.put, List.setIfInBounds_toArray, List.set_cons_zero, List.set_cons_succ]
      refine plan_m rfl rfl ?_
      refine wp_storeS st12 3 rfl rfl rfl rfl (by first | (simp only [cw_len]; done) | (simp only [List.length_append, cw_len]; done)) (by first | (rw [cw_len]; kernel_rfl) | (simp only [List.length_append, cw_len]; kernel_rfl)) (cw_one _ _) ?_
      intro w13 st13
      try simp only [Act.put]
      refine plan_end ?_
      exact key g7 _ st13
    · skip
      refine wp_allocS hd10 rfl (z := .agg #[.int .u64 0, .int .u64 0, .int .u64 0, .int .u64 0]) (by kernel_rfl) (cw 4 0) (by rw [cw_zero]; rfl) ?_
      intro g7 w14 st14
      refine ⟨St.less st14 (by simp), ?_⟩
      try simp only [Act.put, List.setIfInBounds_toArray, List.set_cons_zero, List.set_cons_succ]
      refine plan_r rfl rfl ?_
      go_simp
      refine (MSquare_v m gp _ HOK.out (HPM.out.keep st14.fr id) i ii Hii.out).mono ?_
      rintro e' w15 ⟨rfl, hf15⟩
      have st15 := st14.keep hf15
      clear hf15
      refine ⟨St.less st15 (by simp), ?_⟩
      try simp only [Act.put, List.setIfInBounds_toArray, List.set_cons_zero, List.set_cons_succ]
      refine plan_m rfl rfl ?_
      refine wp_storeS st15 3 rfl rfl rfl rfl (by first | (simp only [cw_len]; done) | (simp only [List.length_append, cw_len]; done)) (by first | (rw [cw_len]; kernel_rfl) | (simp only [List.length_append, cw_len]; kernel_rfl)) (cw_one _ _) ?_
      intro w16 st16
      try simp only [Act.put]
      refine plan_end ?_
      exact key g7 _ st16
  intro g7 w17 st17
  have st17 : St Nob w w17 [(g3, cw 4 (elN m x) ++ (cw 4 (elN m y) ++ cw 4 (elN m z)), 60), (gb, bs (List.replicate 33 0), 5), (g6, cw 4 (elN m i), 58), (g7, cw 4 (elN m ii), 58)] := st17
  clear hd10
  refine NoPanic.normal ?_
  go_wp2_with fail
  refine wp_region_noPanic ?_
  refine wp_region_plan (fun wx => St Nob w wx [(g3, cw 4 (elN m x) ++ (cw 4 (elN m y) ++ cw 4 (elN m z)), 60), (gb, bs (List.replicate 33 0), 5), (g6, cw 4 (elN m i), 58), (g7, cw 4 (elN m ii), 58)]) 20 (.w 0 (.w 1 (.w 2 (.t 3 (.w 4 (.w 5 (.w 6 (.t 7 (.w 8 (.t 9 (.w 10 (.w 11 (.w 12 (.t 13 (.t 14 (.t 15 (.b 16 19 (.b 17 19 (.b 18 19 (.r 19 (.m 20 .nil)) (.r 18 (.m 20 .nil))) (.r 17 (.r 18 (.m 20 .nil)))) (.r 16 (.r 17 (.r 18 (.m 20 .nil))))))))))))))))))))) (by kernel_rfl) (by kernel_rfl) st17.drew (fun _ _ _ _ _ h => h) ?_
  have hd17 := st17.drew
  clear st17
  refine plan_w (v := ?_) rfl rfl (fun wx => ?_) ?_
  rotate_left 1
  · (go_simp; with_reducible rfl)
  try simp only [Act.put, List.setIfInBounds_toArray, List.set_cons_zero, List.set_cons_succ]
  refine plan_w (v := ?_) rfl rfl (fun wx => ?_) ?_
  rotate_left 1
  · (go_simp; with_reducible rfl)
  try simp only [Act.put, List.setIfInBounds_toArray, List.set_cons_zero, List.set_cons_succ]
  refine plan_w (v := ?_) rfl rfl (fun wx => ?_) ?_
  rotate_left 1
  · (go_simp; with_reducible rfl)
  try simp only [Act.put, List.setIfInBounds_toArray, List.set_cons_zero, List.set_cons_succ]
  refine plan_t (v := ?_) rfl rfl (fun wx hS => ?_) ?_
  rotate_left 1
  · (have hc := (HCV.out.keep (St.fr hS) id).cell (i := 0) rfl; clear hS; go_simp; with_reducible rfl)
  try simp only [Act.put, List.setIfInBounds_toArray, List.set_cons_zero, List.set_cons_succ]
  refine plan_w (v := ?_) rfl rfl (fun wx => ?_) ?_
  rotate_left 1
  · (go_simp; with_reducible rfl)
  try simp only [Act.put, List.setIfInBounds_toArray, List.set_cons_zero, List.set_cons_succ]
  refine plan_w (v := ?_) rfl rfl (fun wx => ?_) ?_
  rotate_left 1
  · (go_simp; with_reducible rfl)
  try simp only [Act.put, List.setIfInBounds_toArray, List.set_cons_zero, List.set_cons_succ]
  refine plan_w (v := ?_) rfl rfl (fun wx => ?_) ?_
  rotate_left 1
  · (go_simp; with_reducible rfl)
  try simp only [Act.put, List.setIfInBounds_toArray, List.set_cons_zero, List.set_cons_succ]
  refine plan_t (v := ?_) rfl rfl (fun wx hS => ?_) ?_
  rotate_left 1
  · (have hc := (HCV.out.keep (St.fr hS) id).cell (i := 0) rfl; clear hS; go_simp; with_reducible rfl)
  try simp only [Act.put, List.setIfInBounds_toArray, List.set_cons_zero, List.set_cons_succ]
  refine plan_w (v := ?_) rfl rfl (fun wx => ?_) ?_
  rotate_left 1
  · (go_simp; with_reducible rfl)
  try simp only [Act.put, List.setIfInBounds_toArray, List.set_cons_zero, List.set_cons_succ]
  refine plan_arr rfl rfl rfl rfl (cw 4 (elN m y)) (fun wx hS => St.rangeL hS 0 rfl 4 _ (pt_y _ _ _)) Tryz.underlying58 rfl (by first | (rw [cw_len]; kernel_rfl) | (simp only [List.length_append, cw_len]; kernel_rfl)) ?_
  try simp only [Act.put, List.setIfInBounds_toArray, List.set_cons_zero, List.set_cons_succ]
  refine plan_w (v := ?_) rfl rfl (fun wx => ?_) ?_
  rotate_left 1
  · (go_simp; with_reducible rfl)
  try simp only [Act.put, List.setIfInBounds_toArray, List.set_cons_zero, List.set_cons_succ]
  refine plan_w (v := ?_) rfl rfl (fun wx => ?_) ?_
  rotate_left 1
  · (go_simp; with_reducible rfl)
  try simp only [Act.put, List.setIfInBounds_toArray, List.set_cons_zero, List.set_cons_succ]
  refine plan_w (v := ?_) rfl rfl (fun wx => ?_) ?_
  rotate_left 1
  · (go_simp; with_reducible rfl)
  try simp only [Act.put, List.setIfInBounds_toArray, List.set_cons_zero, List.set_cons_succ]
  refine plan_t (v := ?_) rfl rfl (fun wx hS => ?_) ?_
  rotate_left 1
  · (have hc := (HCV.out.keep (St.fr hS) id).cell (i := 0) rfl; clear hS; go_simp; with_reducible rfl)
  try simp only [Act.put, List.setIfInBounds_toArray, List.set_cons_zero, List.set_cons_succ]
  refine plan_arr rfl rfl rfl rfl (cw 4 (elN m ii)) (fun wx hS => St.rangeL hS 3 rfl 0 _ (by rw [List.drop_zero, List.take_of_length_le (Nat.le_refl _)])) Tryz.underlying58 rfl (by first | (rw [cw_len]; kernel_rfl) | (simp only [List.length_append, cw_len]; kernel_rfl)) ?_
  try simp only [Act.put, List.setIfInBounds_toArray, List.set_cons_zero, List.set_cons_succ]
  refine plan_arr rfl rfl rfl rfl (cw 4 (elN m i)) (fun wx hS => St.rangeL hS 2 rfl 0 _ (by rw [List.drop_zero, List.take_of_length_le (Nat.le_refl _)])) Tryz.underlying58 rfl (by first | (rw [cw_len]; kernel_rfl) | (simp only [List.length_append, cw_len]; kernel_rfl)) ?_
  try simp only [Act.put, List.setIfInBounds_toArray, List.set_cons_zero, List.set_cons_succ]
  refine plan_key1 (C := fun g8 wz => St Nob w wz [(g3, cw 4 (elN m x) ++ (cw 4 (elN m y) ++ cw 4 (elN m z)), 60), (gb, bs (List.replicate 33 0), 5), (g6, cw 4 (elN m i), 58), (g7, cw 4 (elN m ii), 58), (g8, cw 4 v, 64)]) (F := ?_) (fun key => ?_) ?_
  rotate_left 1
  · skip
    refine plan_b0 rfl rfl rfl rfl ?_ ?_
    · skip
      go_simp
      refine (MMul_v m gp _ HOK.out (HPM.out.keep hd17.fr id) ii i i3 Hi3.out).mono ?_
      rintro e' w18 ⟨rfl, hf18⟩
      have st18 := hd17.keep hf18
      clear hf18
      refine ⟨st18, ?_⟩
      try simp only [Act.put, List.setIfInBounds_toArray, List.set_cons_zero, List.set_cons_succ]
      refine plan_b0 rfl rfl rfl rfl ?_ ?_
      · skip
        go_simp
        refine (MMul_v m gp _ HOK.out (HPM.out.keep st18.fr id) y i3 yy Hyy.out).mono ?_
        rintro e' w19 ⟨rfl, hf19⟩
        have st19 := st18.keep hf19
        clear hf19
        refine ⟨st19, ?_⟩
        try simp only [Act.put, List.setIfInBounds_toArray, List.set_cons_zero, List.set_cons_succ]
        refine plan_b0 rfl rfl rfl rfl ?_ ?_
        · skip
          go_simp
          refine (MFrom_v m gp _ HOK.out (HPM.out.keep st19.fr id) yy v Hv.out).mono ?_
          rintro e' w20 ⟨rfl, hf20⟩
          have st20 := st19.keep hf20
          clear hf20
          refine ⟨st20, ?_⟩
          try simp only [Act.put, List.setIfInBounds_toArray, List.set_cons_zero, List.set_cons_succ]
          refine plan_r rfl rfl ?_
          refine wp_allocS st20 rfl (z := .agg #[.int .u64 0, .int .u64 0, .int .u64 0, .int .u64 0]) (by kernel_rfl) (cw 4 0) (by rw [cw_zero]; rfl) ?_
          intro g8 w21 st21
          refine ⟨St.less st21 (by simp), ?_⟩
          try simp only [Act.put, List.setIfInBounds_toArray, List.set_cons_zero, List.set_cons_succ]
          refine plan_m rfl rfl ?_
          refine wp_storeS st21 4 rfl rfl rfl rfl (by first | (simp only [cw_len]; done) | (simp only [List.length_append, cw_len]; done)) (by first | (rw [cw_len]; kernel_rfl) | (simp only [List.length_append, cw_len]; kernel_rfl)) (cw_one _ _) ?_
          intro w22 st22
          try simp only [Act.put]
          refine plan_end ?_
          exact key g8 _ st22
        · skip
          refine wp_allocS st19 rfl (z := .agg #[.int .u64 0, .int .u64 0, .int .u64 0, .int .u64 0]) (by kernel_rfl) (cw 4 0) (by rw [cw_zero]; rfl) ?_
          intro g8 w23 st23
          refine ⟨St.less st23 (by simp), ?_⟩
          try simp only [Act.put, List.setIfInBounds_toArray, List.set_cons_zero, List.set_cons_succ]
          refine plan_r rfl rfl ?_
          go_simp
          refine (MFrom_v m gp _ HOK.out (HPM.out.keep st23.fr id) yy v Hv.out).mono ?_
          rintro e' w24 ⟨rfl, hf24⟩
          have st24 := st23.keep hf24
          clear hf24
          refine ⟨St.less st24 (by simp), ?_⟩
          try simp only [Act.put, List.setIfInBounds_toArray, List.set_cons_zero, List.set_cons_succ]
          refine plan_m rfl rfl ?_
          refine wp_storeS st24 4 rfl rfl rfl rfl (by first | (simp only [cw_len]; done) | (simp only [List.length_append, cw_len]; done)) (by first | (rw [cw_len]; kernel_rfl) | (simp only [List.length_append, cw_len]; kernel_rfl)) (cw_one _ _) ?_
          intro w25 st25
          try simp only [Act.put]
          refine plan_end ?_
          exact key g8 _ st25
      · skip
        refine wp_allocS st18 rfl (z := .agg #[.int .u64 0, .int .u64 0, .int .u64 0, .int .u64 0]) (by kernel_rfl) (cw 4 0) (by rw [cw_zero]; rfl) ?_
        intro g8 w26 st26
        refine ⟨St.less st26 (by simp), ?_⟩
        try simp only [Act.put, List.setIfInBounds_toArray, List.set_cons_zero, List.set_cons_succ]
        refine plan_r rfl rfl ?_
        go_simp
        refine (MMul_v m gp _ HOK.out (HPM.out.keep st26.fr id) y i3 yy Hyy.out).mono ?_
        rintro e' w27 ⟨rfl, hf27⟩
        have st27 := st26.keep hf27
        clear hf27
        refine ⟨St.less st27 (by simp), ?_⟩
        try simp only [Act.put, List.setIfInBounds_toArray, List.set_cons_zero, List.set_cons_succ]
        refine plan_r rfl rfl ?_
        go_simp
        refine (MFrom_v m gp _ HOK.out (HPM.out.keep st27.fr id) yy v Hv.out).mono ?_
        rintro e' w28 ⟨rfl, hf28⟩
        have st28 := st27.keep hf28
        clear hf28
        refine ⟨St.less st28 (by simp), ?_⟩
        try simp only [Act.put, List.setIfInBounds_toArray, List.set_cons_zero, List.set_cons_succ]
        refine plan_m rfl rfl ?_
        refine wp_storeS st28 4 rfl rfl rfl rfl (by first | (simp only [cw_len]; done) | (simp only [List.length_append, cw_len]; done)) (by first | (rw [cw_len]; kernel_rfl) | (simp only [List.length_append, cw_len]; kernel_rfl)) (cw_one _ _) ?_
        intro w29 st29
        try simp only [Act.put]
        refine plan_end ?_
        exact key g8 _ st29
    · skip
      refine wp_allocS hd17 rfl (z := .agg #[.int .u64 0, .int .u64 0, .int .u64 0, .int .u64 0]) (by kernel_rfl) (cw 4 0) (by rw [cw_zero]; rfl) ?_
      intro g8 w30 st30
      refine ⟨St.less st30 (by simp), ?_⟩
      try simp only [Act.put, List.setIfInBounds_toArray, List.set_cons_zero, List.set_cons_succ]
      refine plan_r rfl rfl ?_
      go_simp
      refine (MMul_v m gp _ HOK.out (HPM.out.keep st30.fr id) ii i i3 Hi3.out).mono ?_
      rintro e' w31 ⟨rfl, hf31⟩
      have st31 := st30.keep hf31
      clear hf31
      refine ⟨St.less st31 (by simp), ?_⟩
      try simp only [Act.put, List.setIfInBounds_toArray, List.set_cons_zero, List.set_cons_succ]
      refine plan_r rfl rfl ?_
      go_simp
      refine (MMul_v m gp _ HOK.out (HPM.out.keep st31.fr id) y i3 yy Hyy.out).mono ?_
      rintro e' w32 ⟨rfl, hf32⟩
      have st32 := st31.keep hf32
      clear hf32
      refine ⟨St.less st32 (by simp), ?_⟩
      try simp only [Act.put, List.setIfInBounds_toArray, List.set_cons_zero, List.set_cons_succ]
      refine plan_r rfl rfl ?_
      go_simp
      refine (MFrom_v m gp _ HOK.out (HPM.out.keep st32.fr id) yy v Hv.out).mono ?_
      rintro e' w33 ⟨rfl, hf33⟩
      have st33 := st32.keep hf33
      clear hf33
      refine ⟨St.less st33 (by simp), ?_⟩
      try simp only [Act.put, List.setIfInBounds_toArray, List.set_cons_zero, List.set_cons_succ]
      refine plan_m rfl rfl ?_
      refine wp_storeS st33 4 rfl rfl rfl rfl (by first | (simp only [cw_len]; done) | (simp only [List.length_append, cw_len]; done)) (by first | (rw [cw_len]; kernel_rfl) | (simp only [List.length_append, cw_len]; kernel_rfl)) (cw_one _ _) ?_
      intro w34 st34
      try simp only [Act.put]
      refine plan_end ?_
      exact key g8 _ st34
  intro g8 w35 st35
  have st35 : St Nob w w35 [(g3, cw 4 (elN m x) ++ (cw 4 (elN m y) ++ cw 4 (elN m z)), 60), (gb, bs (List.replicate 33 0), 5), (g6, cw 4 (elN m i), 58), (g7, cw 4 (elN m ii), 58), (g8, cw 4 v, 64)] := st35
  clear hd17
  refine NoPanic.normal ?_
  have c1 := (st35.at 4 rfl).cell (cw_get 4 v 0 (by decide))
  obtain ⟨v3, c3, f3⟩ := (st35.at 1 rfl).ready (i := 0) (by rw [length_bs, List.length_replicate]; decide)
  have ha := low_and v
  have hb2 : v % 2 = 0 ∨ v % 2 = 1 := by omega
  generalize hbv : v % 2 = b at *
  have HBV := Lib.hid hbv
  clear hbv
  have ho := or_two b hb2
  have hw8 : IntKind.u8.wrap (b : Int) = (b : Int) := by rcases hb2 with rfl | rfl <;> decide
  have hst2 := st35.set 1 rfl 0 (.int .u8 ((2 + b : Nat) : Int))
  rw [zeros_set (2 + b) (by omega)] at hst2
  have hw16 : IntKind.u8.wrap ((2 + b : Nat) : Int) = ((2 + b : Nat) : Int) := by rcases hb2 with rfl | rfl <;> decide
  have HB2 := Lib.hid hb2
  clear hb2
  go_wp2_with fail
  have st36 : St Nob w _ [(g3, cw 4 (elN m x) ++ (cw 4 (elN m y) ++ cw 4 (elN m z)), 60), (gb, bb1 (2 + b), 5), (g6, cw 4 (elN m i), 58), (g7, cw 4 (elN m ii), 58), (g8, cw 4 v, 64)] := hst2
  clear st35 hst2 c1 c3 f3 ha ho hw8 hw16
  go_wp2_with fail
  refine wp_region_noPanic ?_
  refine wp_region_plan (fun wx => St Nob w wx [(g3, cw 4 (elN m x) ++ (cw 4 (elN m y) ++ cw 4 (elN m z)), 60), (gb, bb1 (2 + b), 5), (g6, cw 4 (elN m i), 58), (g7, cw 4 (elN m ii), 58), (g8, cw 4 v, 64)]) 15 (.w 0 (.w 1 (.w 2 (.w 3 (.t 4 (.w 5 (.w 6 (.w 7 (.t 8 (.w 9 (.t 10 (.t 11 (.r 12 (.r 13 (.r 14 (.m 15 (.w 16 .nil))))))))))))))))) (by kernel_rfl) (by kernel_rfl) st36.drew (fun _ _ _ _ _ h => h) ?_
  have hd36 := st36.drew
  clear st36
  refine plan_w (v := ?_) rfl rfl (fun wx => ?_) ?_
  rotate_left 1
  · (go_simp; with_reducible rfl)
  try simp only [Act.put, List.setIfInBounds_toArray, List.set_cons_zero, List.set_cons_succ]
  refine plan_w (v := ?_) rfl rfl (fun wx => ?_) ?_
  rotate_left 1
  · (go_simp; with_reducible rfl)
  try simp only [Act.put, List.setIfInBounds_toArray, List.set_cons_zero, List.set_cons_succ]
  refine plan_w (v := ?_) rfl rfl (fun wx => ?_) ?_
  rotate_left 1
  · (go_simp; with_reducible rfl)
  try simp only [Act.put, List.setIfInBounds_toArray, List.set_cons_zero, List.set_cons_succ]
  refine plan_w (v := ?_) rfl rfl (fun wx => ?_) ?_
  rotate_left 1
  · (go_simp; with_reducible rfl)
  try simp only [Act.put, List.setIfInBounds_toArray, List.set_cons_zero, List.set_cons_succ]
  refine plan_t (v := ?_) rfl rfl (fun wx hS => ?_) ?_
  rotate_left 1
  · (have hc := (HCV.out.keep (St.fr hS) id).cell (i := 0) rfl; clear hS; go_simp; with_reducible rfl)
  try simp only [Act.put, List.setIfInBounds_toArray, List.set_cons_zero, List.set_cons_succ]
  refine plan_w (v := ?_) rfl rfl (fun wx => ?_) ?_
  rotate_left 1
  · (go_simp; with_reducible rfl)
  try simp only [Act.put, List.setIfInBounds_toArray, List.set_cons_zero, List.set_cons_succ]
  refine plan_w (v := ?_) rfl rfl (fun wx => ?_) ?_
  rotate_left 1
  · (go_simp; with_reducible rfl)
  try simp only [Act.put, List.setIfInBounds_toArray, List.set_cons_zero, List.set_cons_succ]
  refine plan_w (v := ?_) rfl rfl (fun wx => ?_) ?_
  rotate_left 1
  · (go_simp; with_reducible rfl)
  try simp only [Act.put, List.setIfInBounds_toArray, List.set_cons_zero, List.set_cons_succ]
  refine plan_t (v := ?_) rfl rfl (fun wx hS => ?_) ?_
  rotate_left 1
  · (have hc := (HCV.out.keep (St.fr hS) id).cell (i := 0) rfl; clear hS; go_simp; with_reducible rfl)
  try simp only [Act.put, List.setIfInBounds_toArray, List.set_cons_zero, List.set_cons_succ]
  refine plan_w (v := ?_) rfl rfl (fun wx => ?_) ?_
  rotate_left 1
  · (go_simp; with_reducible rfl)
  try simp only [Act.put, List.setIfInBounds_toArray, List.set_cons_zero, List.set_cons_succ]
  refine plan_arr rfl rfl rfl rfl (cw 4 (elN m x)) (fun wx hS => St.rangeL hS 0 rfl 0 _ (pt_x _ _ _)) Tryz.underlying58 rfl (by first | (rw [cw_len]; kernel_rfl) | (simp only [List.length_append, cw_len]; kernel_rfl)) ?_
  try simp only [Act.put, List.setIfInBounds_toArray, List.set_cons_zero, List.set_cons_succ]
  refine plan_arr rfl rfl rfl rfl (cw 4 (elN m ii)) (fun wx hS => St.rangeL hS 3 rfl 0 _ (by rw [List.drop_zero, List.take_of_length_le (Nat.le_refl _)])) Tryz.underlying58 rfl (by first | (rw [cw_len]; kernel_rfl) | (simp only [List.length_append, cw_len]; kernel_rfl)) ?_
  try simp only [Act.put, List.setIfInBounds_toArray, List.set_cons_zero, List.set_cons_succ]
  refine plan_r rfl rfl ?_
  go_simp
  refine (MMul_v m gp _ HOK.out (HPM.out.keep hd36.fr id) x ii xx Hxx.out).mono ?_
  rintro e' w37 ⟨rfl, hf37⟩
  have st37 := hd36.keep hf37
  clear hf37
  clear hd36
  refine ⟨st37, ?_⟩
  try simp only [Act.put, List.setIfInBounds_toArray, List.set_cons_zero, List.set_cons_succ]
  refine plan_r rfl rfl ?_
  go_simp
  refine (MFrom_v m gp _ HOK.out (HPM.out.keep st37.fr id) xx u Hu.out).mono ?_
  rintro e' w38 ⟨rfl, hf38⟩
  have st38 := st37.keep hf38
  clear hf38
  clear st37
  refine ⟨st38, ?_⟩
  try simp only [Act.put, List.setIfInBounds_toArray, List.set_cons_zero, List.set_cons_succ]
  refine plan_r rfl rfl ?_
  go_simp
  refine (MBytes_any u _).mono ?_
  rintro e' w39 ⟨vb, rfl, hownb, hf39⟩
  have st39 := st38.keep hf39
  obtain ⟨va, vc, rfl, -, hrd, -⟩ := hownb.form
  clear hownb
  clear hf39
  clear st38
  refine ⟨st39, ?_⟩
  try simp only [Act.put, List.setIfInBounds_toArray, List.set_cons_zero, List.set_cons_succ]
  refine plan_m rfl rfl ?_
  refine wp_append_in st39 1 rfl rfl Tryz.underlying22 info_u8 (n := 1) (m := 32) (cap := 33) rfl rfl hrd (bs_one _) (by decide) (by have := bb1_len (2 + b); omega) (bb2 (2 + b) u) (bytes_splice _ _) ?_
  intro w40 st40
  have st40 : St Nob w w40 [(g3, cw 4 (elN m x) ++ (cw 4 (elN m y) ++ cw 4 (elN m z)), 60), (gb, bb2 (2 + b) u, 5), (g6, cw 4 (elN m i), 58), (g7, cw 4 (elN m ii), 58), (g8, cw 4 v, 64)] := st40
  clear st39 hrd
  try simp only [Act.put, List.setIfInBounds_toArray, List.set_cons_zero, List.set_cons_succ]
  refine plan_w (v := ?_) rfl rfl (fun wx => ?_) ?_
  rotate_left 1
  · (go_simp; with_reducible rfl)
  try simp only [Act.put, List.setIfInBounds_toArray, List.set_cons_zero, List.set_cons_succ]
  refine plan_end ?_
  refine NoPanic.normal ?_
  have hown : Own w40 w.heap.size 5 1 (.slice (some ⟨gb, 0, none⟩) 33 33) 33 (bb2 (2 + b) u) := by
    have h := st40.at 1 rfl
    have h2 := Own.made h w.heap.size HBB.out 1 33 33 (Nat.le_refl _) (by unfold maxLen; omega) (by have := bb2_len (2 + b) u; omega)
    rwa [List.take_of_length_le (by have := bb2_len (2 + b) u; omega)] at h2
  have hfr := st40.fr
  clear st40
  go_wp2_with fail
  go_ret
  exact ⟨_, rfl, by rw [HBV.out]; unfold bb2 at hown; exact hown, hfr⟩
end Go.Proofs.YtdbgddngapminaaGreat

/- A plan for a region whose operations have guards. -/
namespace Go.Mv
open Go.RowKit
section
variable {P : Program} {ops : Array Oper} {md : Region.Mode} {Q : Exit → Act → World → Prop} {S : World → Prop} {m : Nat}
variable {l : List Oper} {i : Nat} {s : Pl} {a : Act} {w : World} {o : Oper}
end
end Go.Mv

/- group: read. -/
namespace Go.Mv
open Go.RowKit
theorem RdB.tail {w : World} {a : Option Addr} {n : Nat} {l : List UInt8} (h : RdB w a n l) (c : Nat) (h1 : 1 ≤ n) (hc : n ≤ c) : RdB w (cutAt a 1 c) (n - 1) (l.drop 1) := by
  have h2 := cutAt_rd h 1 n c h1 hc (Nat.le_refl _)
  have hl := h.len
  have e : ((bs l).drop 1).take (n - 1) = bs (l.drop 1) := by
    rw [List.take_of_length_le (by rw [List.length_drop, length_bs]; omega)]
    simp [bs]
  rw [e] at h2
  exact h2
end Go.Mv
namespace Go.Proofs.YtdbgddngapminaaGreat
open Go.RowKit Go.Mv Mvp Mvq
theorem built_I0 : Tryz.prog.built 64 [] = some #[.int .u64 0, .int .u64 0, .int .u64 0, .int .u64 0] := by kernel_rfl
/-- the second coordinate that at answers -/
def atY (M n : Nat) : Nat := if rtOk M (crvN n) then rtV M (crvN n) else 0
theorem at_c (m : Md) (gc gp bx by_ : Nat) (w : World) (hok : m.Ok) (hcv : Has w gc (crvL m gp bx by_) 62) (hpm : Has w gp (mdL m) 112) (x : Nat) :
    Calls Tryz.prog 106 #[.pointer (some ⟨gc, 0, none⟩), i4 (elN m x)] w fun e w' => e = .returned (.tuple #[ptV m x (atY m.M x) 1, .bool (rtOk m.M (crvN x))]) ∧ Fr Nob w w' := by
  unfold atY
  cases h : rtOk m.M (crvN x)
  · exact at_no m gc gp bx by_ w hok hcv hpm x _ _ _ rfl rfl rfl h
  · exact at_ok m gc gp bx by_ w hok hcv hpm x _ _ _ rfl rfl rfl h
theorem MLess_v (a b : Nat) (w : World) (ha : a < B64 ^ 4) (hb : b < B64 ^ 4) (r : Bool) (hr : decide (a < b) = r) :
    Calls Tryz.prog 70 #[i4 a, i4 b] w fun e w' => e = .returned (.bool r) ∧ Fr Nob w w' := by
  subst hr; exact MLess_any a b w ha hb
theorem at_u (m : Md) (gc gp bx by_ : Nat) (w : World) (hok : m.Ok) (hcv : Has w gc (crvL m gp bx by_) 62) (hpm : Has w gp (mdL m) 112) (x : Nat) (r : Bool) (hr : rtOk m.M (crvN x) = r) :
    Calls Tryz.prog 106 #[.pointer (some ⟨gc, 0, none⟩), i4 (elN m x)] w fun e w' => e = .returned (.tuple #[.agg (cw 4 (elN m x) ++ (cw 4 (elN m (atY m.M x)) ++ cw 4 (elN m 1))).toArray, .bool r]) ∧ Fr Nob w w' := by
  subst hr; exact at_c m gc gp bx by_ w hok hcv hpm x
attribute [local irreducible] limbs lw mix cw cSub cAdd cMul foldC valFrom beN laid be32 powm montT mstep elN mdL numB rtN rtV rtOk gXn gYn tlN atY crvN
theorem words_zI : (Value.agg #[.int .u64 0, .int .u64 0, .int .u64 0, .int .u64 0]) = i4 0 := by rw [i4, cw_zero]; rfl
end Go.Proofs.YtdbgddngapminaaGreat

/- read and bytes of a program's points. -/
namespace Go.Proofs.YtdbgddngapminaaGreat
open Go.RowKit Go.Mv Mvp Mvq
theorem hatY (n : Nat) (hr : rtOk mP.M (crvN n) = true) : kc (atY mP.M n) = kc (rtV fP (crvN n)) := by unfold atY; rw [if_pos hr, mP_fP]
attribute [local irreducible] atY rtV rtOk ptL crvN tlN affT
theorem kinv_n (z : Nat) : kc (z ^ (mP.M - 2)) = kinv (kc z) := by
  rw [show mP.M - 2 = fP - 2 by rw [mP_fP]]
  unfold kinv
  rw [kc_val_mod]
  generalize fP - 2 = n
  rw [← kc_mod (z ^ n), ← kc_mod ((z % fP) ^ n), ← Nat.pow_mod]
theorem wrPt_A (x y : K) : wrPt (.A x y) = UInt8.ofNat (2 + y.val % 2) :: be32 x.val := rfl
/-- bytes of a point -/
theorem bytes_c (s : PT) (gc : Nat) (w : World) (hcv : Cv w gc) :
    Calls Tryz.prog 25 #[.pointer (some ⟨gc, 0, none⟩), .agg s.L.toArray] w fun e w' => ∃ sv, e = .returned sv ∧ Own w' w.heap.size 5 1 sv 33 (bs (wrPt s.pt)) ∧ Fr Nob w w' := by
  obtain ⟨gp, g1, g2⟩ := hcv
  cases hz : s.isO with
  | true =>
    rw [PT.isO_t hz]
    exact bytes_none mP gc gp gXn gYn w mP_ok g1 g2 s.x s.y s.z hz
  | false =>
    have hne := PT.isO_f hz
    have e : s.pt = .A (kc (s.x * (s.z ^ (mP.M - 2) * s.z ^ (mP.M - 2)))) (kc (s.y * (s.z ^ (mP.M - 2) * s.z ^ (mP.M - 2) * s.z ^ (mP.M - 2)))) := by
      show jk _ _ _ = _
      rw [jk_nz hne]
      simp only [kc_mul', kinv_n]
    rw [e]
    have hb := bytes_v mP gc gp gXn gYn w mP_ok g1 g2 s.x s.y s.z hz _ _ _ _ _ _ _ rfl rfl rfl rfl rfl rfl rfl
    refine hb.mono ?_
    rintro e' w' ⟨sv, h1, h2, h3⟩
    refine ⟨sv, h1, ?_, h3⟩
    rw [wrPt_A, kc_val_mod, kc_val_mod, ← mP_fP]
    exact h2
end Go.Proofs.YtdbgddngapminaaGreat

/- group: with, over a closure's contract; the closures of Plus, Minus and Times. -/
namespace Go.Proofs.YtdbgddngapminaaGreat
open Go.RowKit Go.Mv Mvp Mvq
attribute [local irreducible] limbs lw mix cw cSub cAdd cMul foldC valFrom beN laid be32 powm montT mstep elN mdL numB rtN rtV rtOk gXn gYn PT.L addT dblT mulT tbL tmR tmL dbN innT outT sumT dig rdOk rdPt ptL wrPt
end Go.Proofs.YtdbgddngapminaaGreat

/- group: the closures of Plus, Minus and Times; scalar. -/
namespace Go.Proofs.YtdbgddngapminaaGreat
open Go.RowKit Go.Mv Mvp Mvq
attribute [local irreducible] limbs lw mix cw cSub cAdd cMul foldC valFrom beN laid be32 powm montT mstep elN mdL numB rtN rtV rtOk gXn gYn PT.L addT dblT mulT tbL tmR tmL dbN innT outT sumT dig rdOk rdPt ptL wrPt
set_option maxHeartbeats 8000000 in
set_option maxRecDepth 1000000 in
theorem scalar_len (m : Md) (hk : KindOf 1 m) (a : Option Addr) (n c : Nat) (l : List UInt8) (w : World) (hb : RdB w a n l) (h32 : l.length ≠ 32) :
    Calls Tryz.prog 27 #[.slice a n c] w fun e w' => e = .returned (.tuple #[i4 0, .bool false]) ∧ Fr Nob w w' := by
  have HK := Lib.hid hk
  have HOK := Lib.hid hk.ok
  clear hk
  have hne : ((n : Int) != 32) = true := by have := hb.len; simp; omega
  clear h32 hb
  have st0 := St.start Nob w
  go_enter Tryz.func27, Tryz.ntmps27
  go_wp2_with (with_reducible refine wl_stop (o := ⟨some 2, _, _, _, _, _⟩) ?_)
  refine wl_allocS st0 rfl rfl (z := .agg #[.int .u64 0, .int .u64 0, .int .u64 0, .int .u64 0]) (by kernel_rfl) (cw 4 0) (by rw [cw_zero]; rfl) ?_
  intro g2 w1 st1
  clear st0
  go_wp2_with (with_reducible refine wl_stop (o := ⟨some 10, _, _, _, _, _⟩) ?_)
  refine wl_build0 rfl rfl _ built_I0 ?_
  rw [words_zI]
  go_wp2_with (with_reducible refine wl_stop (o := ⟨none, _, _, _, _, _⟩) ?_)
  refine wl_storeS st1 0 rfl rfl rfl rfl rfl (by first | (simp only [cw_len]; done) | (simp only [List.length_append, cw_len, PT.len, ptL_len]; done)) (by first | (rw [cw_len]; kernel_rfl) | (rw [PT.len]; kernel_rfl) | (rw [ptL_len]; kernel_rfl) | (simp only [List.length_append, cw_len]; kernel_rfl) | (simp only [List.length_append, cw_len, PT.len, ptL_len]; kernel_rfl)) (cw_one _ _) ?_
  intro w2 st2
  clear st1
  have hr := st2.at 0 rfl
  have hfr := st2.fr
  clear st2
  go_wp2_with fail
  exact bodyPost_ret (results_arr2 rfl rfl hr Tryz.underlying64 (by first | (rw [cw_len]; kernel_rfl) | (rw [PT.len]; kernel_rfl) | (rw [ptL_len]; kernel_rfl) | (simp only [List.length_append, cw_len]; kernel_rfl) | (simp only [List.length_append, cw_len, PT.len, ptL_len]; kernel_rfl)) rfl) rfl ⟨rfl, hfr⟩

set_option maxHeartbeats 8000000 in
set_option maxRecDepth 1000000 in
theorem scalar_num (m : Md) (hk : KindOf 1 m) (a : Option Addr) (n c : Nat) (l : List UInt8) (w : World) (hb : RdB w a n l) (h32 : l.length = 32) (r : Bool) (hlt : decide (beN l < m.M) = r) :
    Calls Tryz.prog 27 #[.slice a n c] w fun e w' => e = .returned (.tuple #[i4 (beN l), .bool r]) ∧ Fr Nob w w' := by
  have HK := Lib.hid hk
  have HOK := Lib.hid hk.ok
  clear hk
  have hbl := beN_le32 l (by omega)
  have HBL := Lib.hid hbl
  have h32' : n = 32 := by have := hb.len; omega
  subst h32'
  have HB := Lib.hid hb
  have HLT := Lib.hid hlt
  have hne : (((32 : Nat) : Int) != 32) = false := by rfl
  clear hb hbl h32 hlt
  have st0 := St.start Nob w
  go_enter Tryz.func27, Tryz.ntmps27
  go_wp2_with (with_reducible refine wl_stop (o := ⟨some 2, _, _, _, _, _⟩) ?_)
  refine wl_allocS st0 rfl rfl (z := .agg #[.int .u64 0, .int .u64 0, .int .u64 0, .int .u64 0]) (by kernel_rfl) (cw 4 0) (by rw [cw_zero]; rfl) ?_
  intro g2 w1 st1
  clear st0
  go_wp2_with fail
  refine (OfK HK.out _).mono ?_
  rintro e' w2 ⟨gp, rfl, hle, hm, hf2⟩
  have st2 : St Nob w w2 [(g2, cw 4 0, 64), (gp, mdL m, 112)] := st1.new hf2 hm hle
  clear st1 hf2 hm hle
  go_wp2_with fail
  refine (FromBytes_any a 32 c l _ (HB.out.still st2.fr) (by decide)).mono ?_
  rintro e' w3 ⟨rfl, hf3⟩
  have st3 := st2.keep hf3
  clear st2 hf3
  go_wp2_with (with_reducible refine wl_stop (o := ⟨some 6, _, _, _, _, _⟩) ?_)
  refine wl_allocS st3 rfl rfl (z := .agg #[.int .u64 0, .int .u64 0, .int .u64 0, .int .u64 0]) (by kernel_rfl) (cw 4 0) (by rw [cw_zero]; rfl) ?_
  intro g6 w4 st4
  clear st3
  go_wp2_with (with_reducible refine wl_stop (o := ⟨none, _, _, _, _, _⟩) ?_)
  refine wl_storeS st4 2 rfl rfl rfl rfl rfl (by first | (simp only [cw_len]; done) | (simp only [List.length_append, cw_len, PT.len, ptL_len]; done)) (by first | (rw [cw_len]; kernel_rfl) | (rw [PT.len]; kernel_rfl) | (rw [ptL_len]; kernel_rfl) | (simp only [List.length_append, cw_len]; kernel_rfl) | (simp only [List.length_append, cw_len, PT.len, ptL_len]; kernel_rfl)) (cw_one _ _) ?_
  intro w5 st5
  clear st4
  go_wp2_with fail
  refine wp_region_noPanic ?_
  refine wp_region_plan (fun wx => St Nob w wx [(g2, cw 4 0, 64), (gp, mdL m, 112), (g6, cw 4 (beN l), 64)]) 7 (.t 0 (.t 1 (.w 2 (.w 3 (.w 4 (.t 5 (.r 6 (.m 7 (.w 8 .nil))))))))) (by kernel_rfl) (by kernel_rfl) st5.drew (fun _ _ _ _ _ h => h) ?_
  have hd5 := st5.drew
  clear st5
  refine plan_arr rfl rfl rfl rfl (cw 4 (beN l)) (fun wx hS => St.rangeL hS 2 rfl 0 _ (by rw [List.drop_zero, List.take_of_length_le (Nat.le_refl _)])) Tryz.underlying64 rfl (by first | (rw [cw_len]; kernel_rfl) | (rw [PT.len]; kernel_rfl) | (rw [ptL_len]; kernel_rfl) | (simp only [List.length_append, cw_len]; kernel_rfl) | (simp only [List.length_append, cw_len, PT.len, ptL_len]; kernel_rfl)) ?_
  try simp only [Act.put, List.setIfInBounds_toArray, List.set_cons_zero, List.set_cons_succ]
  refine plan_arr rfl rfl rfl rfl (cw 4 (beN l)) (fun wx hS => St.rangeL hS 2 rfl 0 _ (by rw [List.drop_zero, List.take_of_length_le (Nat.le_refl _)])) Tryz.underlying64 rfl (by first | (rw [cw_len]; kernel_rfl) | (rw [PT.len]; kernel_rfl) | (rw [ptL_len]; kernel_rfl) | (simp only [List.length_append, cw_len]; kernel_rfl) | (simp only [List.length_append, cw_len, PT.len, ptL_len]; kernel_rfl)) ?_
  try simp only [Act.put, List.setIfInBounds_toArray, List.set_cons_zero, List.set_cons_succ]
  refine plan_w (v := ?_) rfl rfl (fun wx => ?_) ?_
  rotate_left 1
  · (go_simp; with_reducible rfl)
  try simp only [Act.put, List.setIfInBounds_toArray, List.set_cons_zero, List.set_cons_succ]
  refine plan_w (v := ?_) rfl rfl (fun wx => ?_) ?_
  rotate_left 1
  · (go_simp; with_reducible rfl)
  try simp only [Act.put, List.setIfInBounds_toArray, List.set_cons_zero, List.set_cons_succ]
  refine plan_w (v := ?_) rfl rfl (fun wx => ?_) ?_
  rotate_left 1
  · (go_simp; with_reducible rfl)
  try simp only [Act.put, List.setIfInBounds_toArray, List.set_cons_zero, List.set_cons_succ]
  refine plan_arr rfl rfl rfl rfl (cw 4 m.M) (fun wx hS => St.rangeL hS 1 rfl 0 _ (md_M m)) Tryz.underlying64 rfl (by first | (rw [cw_len]; kernel_rfl) | (rw [PT.len]; kernel_rfl) | (rw [ptL_len]; kernel_rfl) | (simp only [List.length_append, cw_len]; kernel_rfl) | (simp only [List.length_append, cw_len, PT.len, ptL_len]; kernel_rfl)) ?_
  try simp only [Act.put, List.setIfInBounds_toArray, List.set_cons_zero, List.set_cons_succ]
  refine plan_r rfl rfl ?_
  go_simp
  refine (MLess_v (beN l) m.M _ HBL.out HOK.out.lt r HLT.out).mono ?_
  rintro e' w6 ⟨rfl, hf6⟩
  have st6 := hd5.keep hf6
  clear hf6
  clear hd5
  refine ⟨st6, ?_⟩
  try simp only [Act.put, List.setIfInBounds_toArray, List.set_cons_zero, List.set_cons_succ]
  refine plan_m rfl rfl ?_
  refine wp_storeS st6 0 rfl rfl rfl rfl (by first | (simp only [cw_len]; done) | (simp only [List.length_append, cw_len, PT.len, ptL_len]; done)) (by first | (rw [cw_len]; kernel_rfl) | (rw [PT.len]; kernel_rfl) | (rw [ptL_len]; kernel_rfl) | (simp only [List.length_append, cw_len]; kernel_rfl) | (simp only [List.length_append, cw_len, PT.len, ptL_len]; kernel_rfl)) (cw_one _ _) ?_
  intro w7 st7
  clear st6
  try simp only [Act.put]
  refine plan_w (v := ?_) rfl rfl (fun wx => ?_) ?_
  rotate_left 1
  · (go_simp; with_reducible rfl)
  try simp only [Act.put, List.setIfInBounds_toArray, List.set_cons_zero, List.set_cons_succ]
  refine plan_end ?_
  refine NoPanic.normal ?_
  have hr := st7.at 0 rfl
  have hfr := st7.fr
  clear st7
  go_wp2_with fail
  exact bodyPost_ret (results_arr2 rfl rfl hr Tryz.underlying64 (by first | (rw [cw_len]; kernel_rfl) | (rw [PT.len]; kernel_rfl) | (rw [ptL_len]; kernel_rfl) | (simp only [List.length_append, cw_len]; kernel_rfl) | (simp only [List.length_append, cw_len, PT.len, ptL_len]; kernel_rfl)) rfl) rfl ⟨rfl, hfr⟩

theorem scalar_t {l : List UInt8} (h : numB mQ l = true) (a : Option Addr) (n c : Nat) (w : World) (hb : RdB w a n l) : Calls Tryz.prog 27 #[.slice a n c] w fun e w' => e = .returned (.tuple #[i4 (beN l), .bool true]) ∧ Fr Nob w w' := by
  unfold numB at h
  simp only [Bool.and_eq_true, decide_eq_true_eq] at h
  exact scalar_num mQ .one a n c l w hb h.1 true (decide_eq_true h.2)
theorem scalar_f {l : List UInt8} (h : numB mQ l = false) (a : Option Addr) (n c : Nat) (w : World) (hb : RdB w a n l) : Calls Tryz.prog 27 #[.slice a n c] w fun e w' => (∃ N, e = .returned (.tuple #[i4 N, .bool false])) ∧ Fr Nob w w' := by
  unfold numB at h
  by_cases h32 : l.length = 32
  · rw [decide_eq_true h32, Bool.true_and] at h
    exact (scalar_num mQ .one a n c l w hb h32 false h).mono fun _ _ t => ⟨⟨_, t.1⟩, t.2⟩
  · exact (scalar_len mQ .one a n c l w hb h32).mono fun _ _ t => ⟨⟨_, t.1⟩, t.2⟩
end Go.Proofs.YtdbgddngapminaaGreat

/- group: Plus, Minus, Times, Point, Base: what they answer. -/
namespace Go.Proofs.YtdbgddngapminaaGreat
open Go.RowKit Go.Mv Mvp Mvq
theorem base_cells {gp : Nat} : ((crvL mP gp gXn gYn).drop 5).take baseT.L.length = baseT.L := crv_base mP gp gXn gYn
attribute [local irreducible] limbs lw mix cw cSub cAdd cMul foldC valFrom beN laid be32 powm montT mstep elN mdL numB rtN rtV rtOk gXn gYn PT.L addT dblT mulT tbL tmR tmL dbN innT outT sumT dig rdOk rdPt ptL wrPt
set_option maxHeartbeats 8000000 in
set_option maxRecDepth 1000000 in
theorem GBase_c (w : World) : Calls Tryz.prog 7 #[] w fun e w' => ∃ v, e = .returned v ∧ Own w' w.heap.size 5 1 v 33 (bs (wrPt baseT.pt)) ∧ Fr Nob w w' := by
  go_enter Tryz.func7, Tryz.ntmps7
  go_wp2_with fail
  refine (k256_c _).mono ?_
  rintro e w1 ⟨gc, rfl, hle, hcv, hf1⟩
  have HCV := Lib.hid hcv
  have HF1 := Lib.hid hf1
  clear hle hcv hf1
  go_wp2_with fail
  refine (k256_c _).mono ?_
  rintro e w2 ⟨gd, rfl, hle, ⟨gq, hc2, hm2⟩, hf2⟩
  have HCV2 := Lib.hid (HCV.out.keep hf2)
  have HF2 := Lib.hid (HF1.out.then hf2)
  clear hle hm2 hf2 HCV HF1
  go_wp2_with (with_reducible refine wl_stop (o := ⟨some 5, _, _, _, _, _⟩) ?_)
  refine wl_loadR rfl rfl Tryz.underlying60 rfl rfl (cs := baseT.L) (fun i v hv => hc2.range 5 _ base_cells i v hv) (by rw [PT.len]; kernel_rfl) ?_
  clear hc2
  go_wp2_with fail
  refine (bytes_c baseT gc _ HCV2.out).mono ?_
  rintro e w3 ⟨v, rfl, hown, hf3⟩
  have h3 := HF2.out.then hf3
  have ho := hown.mono HF2.out.size
  clear hown hf3 HF2 HCV2
  go_wp2_with fail
  go_ret
  exact ⟨v, rfl, ho, h3⟩
end Go.Proofs.YtdbgddngapminaaGreat

/- group's exported functions, for all bytes: what they answer, told by points. -/
namespace Mvq
theorem psum_snoc : ∀ (l : List (Nat × Pt)) (n : Nat) (p : Pt), (∀ t ∈ l, onC t.2) → onC p → psum (l ++ [(n, p)]) = padd (psum l) (pmul n p)
  | [], n, p, _, _ => by show padd (pmul n p) .O = padd .O (pmul n p); rw [padd_zero]; rfl
  | (k, q) :: l, n, p, h, hp => by
    have hl : ∀ t ∈ l, onC t.2 := fun t ht => h t (List.mem_cons_of_mem _ ht)
    show padd (pmul k q) (psum (l ++ [(n, p)])) = padd (padd (pmul k q) (psum l)) (pmul n p)
    rw [psum_snoc l n p hl hp, padd_assoc (pmul_on (h (k, q) (by simp)) k) (psum_on l hl) (pmul_on hp n)]
end Mvq
namespace Go.Proofs.YtdbgddngapminaaGreat
open Go.RowKit Go.Mv Mvp Mvq
/-- terms, as numbers and points -/
noncomputable def tpts (l : List (Nat × PT)) : List (Nat × Pt) := l.map fun t => (t.1, t.2.pt)
theorem tpts_on (l : List (Nat × PT)) : ∀ t ∈ tpts l, onC t.2 := by
  intro t ht
  obtain ⟨u, _, rfl⟩ := List.mem_map.1 ht
  exact u.2.onP
theorem innT_pt (l : List (Nat × PT)) (i : Nat) (o : PT) : ∀ k, k ≤ l.length → (innT l i o k).pt = padd o.pt (psum ((tpts (l.take k)).map fun t => (dig (63 - i) t.1, t.2)))
  | 0, _ => by show o.pt = padd o.pt .O; rw [padd_zero]
  | k + 1, h => by
    have ih := innT_pt l i o k (by omega)
    have hk : k < l.length := by omega
    have e : l.take (k + 1) = l.take k ++ [tmAt l k] := by
      rw [List.take_succ_eq_append_getElem hk]
      simp [tmAt, List.getD_eq_getElem?_getD, hk]
    have hon : ∀ t ∈ (tpts (l.take k)).map (fun t => (dig (63 - i) t.1, t.2)), onC t.2 := by
      intro t ht
      obtain ⟨u, hu, rfl⟩ := List.mem_map.1 ht
      exact tpts_on _ u hu
    rw [e, tpts, List.map_append, List.map_append, ← tpts]
    show (addT (innT l i o k) (mulT (tmAt l k).2 (dig (63 - i) (tmAt l k).1))).pt = padd o.pt (psum ((tpts (l.take k)).map (fun t => (dig (63 - i) t.1, t.2)) ++ [(dig (63 - i) (tmAt l k).1, (tmAt l k).2.pt)]))
    rw [addT_pt, mulT_pt, ih, psum_snoc _ _ _ hon (tmAt l k).2.onP, padd_assoc o.onP (psum_on _ hon) (pmul_on (tmAt l k).2.onP _)]
theorem outT_pt (l : List (Nat × PT)) (hn : ∀ t ∈ l, t.1 < 16 ^ 64) : ∀ i, i ≤ 64 → (outT l i).pt = psum (lead (64 - i) (tpts l))
  | 0, _ => by
    show noT.pt = _
    rw [noT_pt]
    have : ∀ l : List (Nat × PT), (∀ t ∈ l, t.1 < 16 ^ 64) → psum (lead 64 (tpts l)) = .O := by
      intro l
      induction l with
      | nil => intro _; rfl
      | cons t l ih =>
        intro h
        show padd (pmul (t.1 / 16 ^ 64) t.2.pt) (psum (lead 64 (tpts l))) = .O
        rw [Nat.div_eq_of_lt (h t (by simp)), ih fun u hu => h u (List.mem_cons_of_mem _ hu)]
        rfl
    exact (this l hn).symm
  | i + 1, h => by
    have ih := outT_pt l hn i (by omega)
    show (innT l i (dbN (outT l i) 4) l.length).pt = _
    rw [innT_pt l i _ l.length (Nat.le_refl _), dbN_pt _ rfl, ih, List.take_of_length_le (Nat.le_refl _)]
    have := lead_next (63 - i) (tpts l) (tpts_on l)
    rw [show 63 - i + 1 = 64 - i by omega] at this
    rw [show 64 - (i + 1) = 63 - i by omega]
    exact this.symm
theorem sumT_pt (l : List (Nat × PT)) (hn : ∀ t ∈ l, t.1 < 16 ^ 64) : (sumT l).pt = psum (tpts l) := by
  have h := outT_pt l hn 64 (Nat.le_refl _)
  rw [Nat.sub_self] at h
  have e : lead 0 (tpts l) = tpts l := by
    unfold lead
    conv => rhs; rw [← List.map_id (tpts l)]
    refine List.map_congr_left fun t _ => ?_
    show (t.1 / 16 ^ 0, t.2) = t
    rw [Nat.pow_zero, Nat.div_one]
  rw [e] at h
  exact h
/-- what is owned reads -/
theorem Own.part {w : World} {base : Nat} {v : Value} {l : List UInt8} (h : Own w base 5 1 v l.length (bs l)) : BPart w v l := by
  obtain ⟨a, c, rfl, hc, hr, -⟩ := h.form
  exact ⟨a, _, c, rfl, hc, by rwa [Nat.mul_one] at hr⟩
/-- a list of bytes of the call's own -/
def OwnB1 (w w' : World) (v : Value) (l : List UInt8) : Prop := Own w' w.heap.size 5 1 v l.length (bs l)
theorem OwnB1.part {w w' : World} {v : Value} {l : List UInt8} (h : OwnB1 w w' v l) : BPart w' v l := Own.part h
theorem OwnB1.nil (w w' : World) : OwnB1 w w' (.slice none 0 0) [] := Own.nil _ _ _ _
theorem OwnB1.of {w w' : World} {v : Value} {l : List UInt8} {n : Nat} (h : Own w' w.heap.size 5 1 v n (bs l)) (hn : l.length = n) : OwnB1 w w' v l := by subst hn; exact h
noncomputable def tS (lk la : List UInt8) : List UInt8 := if numB mQ lk && rdOk la then wrPt (pmul (beN lk) (rdPt la)) else []
def tC (lk la : List UInt8) : Int := if numB mQ lk then (if rdOk la then 0 else 4) else 3
theorem numB_lt2 {l : List UInt8} (h : numB mQ l = true) : beN l < mQ.M := by
  unfold numB at h
  simp only [Bool.and_eq_true, decide_eq_true_eq] at h
  exact h.2
/-- the base -/
def gP : Pt := .A (kc gXn) (kc gYn)
theorem GBase_u (w : World) : Calls Tryz.prog 7 #[] w fun e w' => ∃ v, e = .returned v ∧ OwnB1 w w' v (wrPt gP) ∧ Fr Nob w w' :=
  (GBase_c w).mono fun e w' ⟨v, k1, k2, k3⟩ => ⟨v, k1, by rw [baseT_pt] at k2; exact OwnB1.of k2 (wrPt_len _), k3⟩
end Go.Proofs.YtdbgddngapminaaGreat

/- mintvaultref1.Still: is a list all as it was lent? -/
namespace Go.Proofs.YtdbgddngapminaaGreat
open Go.RowKit Go.Mv Mvp

theorem ret_bool {a b : Bool} (h : a = b) : Ending.returned (.bool a) = .returned (.bool b) := by rw [h]

set_option maxHeartbeats 400000 in
set_option maxRecDepth 100000 in
theorem still_any (b : Option Addr) (n c : Nat) (l : List UInt8) (s : ByteArray) (w : World) (hs : s.size ≤ 1000000) (hb : RdB w b n l) :
    Calls Tryz.prog 10 #[.slice b n c, .string s] w fun e w' => e = .returned (.bool (decide (l = lentL s.data.toList))) ∧ Fr Nob w w' := by
  go_enter Tryz.func10, Tryz.ntmps10
  go_wp2_with fail
  refine (lent_any s _ hs).mono ?_
  rintro e w1 ⟨rfl, hh, hf, hz⟩
  have hb1 := hb.still hf
  have hc1 : RdB w1 (some ⟨w.heap.size, 0, none⟩) (s.size + 160) (lentL s.data.toList) := by
    have := Rd.whole hh
    rwa [length_bs, lentL_len, size_list] at this
  go_wp2_with (first
    | (with_reducible refine wl_stop (o := ⟨some 9, _, _, _, _, _⟩) ?_))
  refine wl_string rfl rfl Tryz.underlying22 Tryz.underlying5 Tryz.underlying9 rfl hb1 ?_
  go_wp2_with (first
    | (with_reducible refine wl_stop (o := ⟨some 11, _, _, _, _, _⟩) ?_))
  refine wl_string rfl rfl Tryz.underlying22 Tryz.underlying5 Tryz.underlying9 rfl hc1 ?_
  go_wp2_with fail
  go_ret
  exact ⟨ret_bool (beq_mkS _ _), hf⟩
end Go.Proofs.YtdbgddngapminaaGreat

/- Pure sponge: what the program's and the reference's permutation compute, and that the two are one. -/
namespace Mvp


def goesTo (i : Nat) : Nat := i / 5 + 5 * ((2 * (i % 5) + 3 * (i / 5)) % 5)

/- the program -/
def colStep (s c : List UInt64) (i : Nat) : List UInt64 := c.set (i % 5) (c.getD (i % 5) 0 ^^^ s.getD i 0)
def colP (s : List UInt64) (k : Nat) : List UInt64 := (List.range k).foldl (colStep s) [0, 0, 0, 0, 0]
def movStep (s col : List UInt64) (by_ : List Nat) (m : List UInt64) (i : Nat) : List UInt64 :=
  m.set (goesTo i) (rotl (s.getD i 0 ^^^ (col.getD ((i + 4) % 5) 0 ^^^ rotl (col.getD ((i + 1) % 5) 0) 1)) (by_.getD i 0))
def movP (s col : List UInt64) (by_ : List Nat) (k : Nat) : List UInt64 := (List.range k).foldl (movStep s col by_) (List.replicate 25 0)
def chiStep (m : List UInt64) (y : Nat) (s : List UInt64) (x : Nat) : List UInt64 :=
  s.set (y + x) (m.getD (y + x) 0 ^^^ (~~~ (m.getD (y + (x + 1) % 5) 0) &&& m.getD (y + (x + 2) % 5) 0))
def chiRow (m s : List UInt64) (y k : Nat) : List UInt64 := (List.range k).foldl (chiStep m y) s
def chiP (m s : List UInt64) (k : Nat) : List UInt64 := (List.range k).foldl (fun s y => chiRow m s (5 * y) 5) s
def roundP (by_ : List Nat) (s : List UInt64) (c : UInt64) : List UInt64 :=
  let t := chiP (movP s (colP s 25) by_ 25) s 5
  t.set 0 (t.getD 0 0 ^^^ c)
def permP (by_ : List Nat) (rc : Nat → UInt64) (s : List UInt64) (k : Nat) : List UInt64 := (List.range k).foldl (fun s r => roundP by_ s (rc r)) s

/- the reference -/
def place (x y : Nat) : Nat := x % 5 + 5 * (y % 5)
def colRstep (s : List UInt64) (x : Nat) (c : List UInt64) (y : Nat) : List UInt64 := c.set x (c.getD x 0 ^^^ s.getD (place x y) 0)
def colRrow (s c : List UInt64) (x k : Nat) : List UInt64 := (List.range k).foldl (colRstep s x) c
def colR (s : List UInt64) (k : Nat) : List UInt64 := (List.range k).foldl (fun c x => colRrow s c x 5) [0, 0, 0, 0, 0]
def movRstep (s : List UInt64) (turn : List Nat) (x : Nat) (d : UInt64) (m : List UInt64) (y : Nat) : List UInt64 :=
  m.set (place y (2 * x + 3 * y)) (rotl (s.getD (place x y) 0 ^^^ d) (turn.getD (place x y) 0))
def movRrow (s : List UInt64) (turn : List Nat) (m : List UInt64) (x : Nat) (d : UInt64) (k : Nat) : List UInt64 := (List.range k).foldl (movRstep s turn x d) m
def dR (col : List UInt64) (x : Nat) : UInt64 := col.getD ((x + 4) % 5) 0 ^^^ rotl (col.getD ((x + 1) % 5) 0) 1
def movR (s : List UInt64) (turn : List Nat) (col : List UInt64) (k : Nat) : List UInt64 := (List.range k).foldl (fun m x => movRrow s turn m x (dR col x) 5) (List.replicate 25 0)
def chiRstep (m : List UInt64) (x : Nat) (o : List UInt64) (y : Nat) : List UInt64 :=
  o.set (place x y) (m.getD (place x y) 0 ^^^ (~~~ (m.getD (place (x + 1) y) 0) &&& m.getD (place (x + 2) y) 0))
def chiRrow (m o : List UInt64) (x k : Nat) : List UInt64 := (List.range k).foldl (chiRstep m x) o
def chiR (m : List UInt64) (k : Nat) : List UInt64 := (List.range k).foldl (fun o x => chiRrow m o x 5) (List.replicate 25 0)
def roundR (turn : List Nat) (s : List UInt64) (c : UInt64) : List UInt64 :=
  let t := chiR (movR s turn (colR s 5) 5) 5
  t.set 0 (t.getD 0 0 ^^^ c)
def permR (turn : List Nat) (rc : Nat → UInt64) (s : List UInt64) (k : Nat) : List UInt64 := (List.range k).foldl (fun s r => roundR turn s (rc r)) s

theorem len25 (s : List UInt64) (h : s.length = 25) : ∃ a0 a1 a2 a3 a4 a5 a6 a7 a8 a9 a10 a11 a12 a13 a14 a15 a16 a17 a18 a19 a20 a21 a22 a23 a24, s = [a0, a1, a2, a3, a4, a5, a6, a7, a8, a9, a10, a11, a12, a13, a14, a15, a16, a17, a18, a19, a20, a21, a22, a23, a24] := by
  match s, h with
  | [a0, a1, a2, a3, a4, a5, a6, a7, a8, a9, a10, a11, a12, a13, a14, a15, a16, a17, a18, a19, a20, a21, a22, a23, a24], _ => exact ⟨_, _, _, _, _, _, _, _, _, _, _, _, _, _, _, _, _, _, _, _, _, _, _, _, _, rfl⟩

theorem col_same (s : List UInt64) (h : s.length = 25) : colP s 25 = colR s 5 := by
  obtain ⟨a0, a1, a2, a3, a4, a5, a6, a7, a8, a9, a10, a11, a12, a13, a14, a15, a16, a17, a18, a19, a20, a21, a22, a23, a24, rfl⟩ := len25 s h
  kernel_rfl

theorem mov_same (s col : List UInt64) (t : List Nat) : movP s col t 25 = movR s t col 5 := by
  kernel_rfl

theorem chi_same (m s : List UInt64) (h : s.length = 25) : chiP m s 5 = chiR m 5 := by
  obtain ⟨a0, a1, a2, a3, a4, a5, a6, a7, a8, a9, a10, a11, a12, a13, a14, a15, a16, a17, a18, a19, a20, a21, a22, a23, a24, rfl⟩ := len25 s h
  kernel_rfl

theorem round_same (t : List Nat) (s : List UInt64) (c : UInt64) (h : s.length = 25) : roundP t s c = roundR t s c := by
  unfold roundP roundR
  rw [col_same s h, mov_same, chi_same _ s h]

theorem foldl_inv {α β : Type} (P : α → Prop) (f : α → β → α) (hf : ∀ a b, P a → P (f a b)) (l : List β) : ∀ a, P a → P (l.foldl f a) := by
  induction l with
  | nil => intro a h; exact h
  | cons b l ih => intro a h; exact ih _ (hf _ _ h)

theorem chiP_len (m s : List UInt64) (k : Nat) : (chiP m s k).length = s.length := by
  refine foldl_inv (fun l : List UInt64 => l.length = s.length) _ (fun a y h => ?_) _ _ rfl
  refine foldl_inv (fun l : List UInt64 => l.length = s.length) _ (fun b x h => ?_) _ _ h
  simp [chiStep, h]

theorem roundP_len (t : List Nat) (s : List UInt64) (c : UInt64) : (roundP t s c).length = s.length := by simp [roundP, chiP_len]

theorem permP_succ (t : List Nat) (rc : Nat → UInt64) (s : List UInt64) (k : Nat) : permP t rc s (k + 1) = roundP t (permP t rc s k) (rc k) := by
  simp [permP, List.range_succ]
theorem permR_succ (t : List Nat) (rc : Nat → UInt64) (s : List UInt64) (k : Nat) : permR t rc s (k + 1) = roundR t (permR t rc s k) (rc k) := by
  simp [permR, List.range_succ]
theorem permP_len (t : List Nat) (rc : Nat → UInt64) (s : List UInt64) (k : Nat) : (permP t rc s k).length = s.length := by
  induction k with
  | zero => simp [permP]
  | succ k ih => rw [permP_succ, roundP_len, ih]
theorem perm_same (t : List Nat) (rc rc' : Nat → UInt64) (s : List UInt64) (h : s.length = 25) (n : Nat) (hrc : ∀ r, r < n → rc r = rc' r) : permP t rc s n = permR t rc' s n := by
  induction n with
  | zero => simp [permP, permR]
  | succ k ih =>
    rw [permP_succ, permR_succ, ← ih (fun r hr => hrc r (by omega)), hrc k (by omega)]
    exact round_same _ _ _ (by rw [permP_len, h])

/- the constants of the rounds -/
def lfsr : Nat → Nat
  | 0 => 1
  | n + 1 => if 2 * lfsr n > 255 then (2 * lfsr n) ^^^ 369 else 2 * lfsr n
theorem lfsr_lt (n : Nat) : lfsr n < 256 := by
  have h : ∀ r, r < 256 → (if 2 * r > 255 then (2 * r) ^^^ 369 else 2 * r) < 256 := by decide +kernel
  induction n with
  | zero => decide
  | succ n ih => exact h _ ih
def bitR (t : Nat) : Nat := lfsr t % 2
def bitW (t : Nat) : UInt64 := UInt64.ofNat (bitR t)
def rcStep (r : Nat) (out : UInt64) (j : Nat) : UInt64 := out ||| shl (bitW (j + 7 * r)) (2 ^ j - 1)
def rcR (r k : Nat) : UInt64 := (List.range k).foldl (rcStep r) 0

def rcBytes : List Nat := [
  0, 0, 0, 0, 0, 0, 0, 1, 0, 0, 0, 0, 0, 0, 0x80, 0x82, 0x80, 0, 0, 0, 0, 0, 0x80, 0x8a, 0x80, 0, 0, 0, 0x80, 0, 0x80, 0,
  0, 0, 0, 0, 0, 0, 0x80, 0x8b, 0, 0, 0, 0, 0x80, 0, 0, 1, 0x80, 0, 0, 0, 0x80, 0, 0x80, 0x81, 0x80, 0, 0, 0, 0, 0, 0x80, 9,
  0, 0, 0, 0, 0, 0, 0, 0x8a, 0, 0, 0, 0, 0, 0, 0, 0x88, 0, 0, 0, 0, 0x80, 0, 0x80, 9, 0, 0, 0, 0, 0x80, 0, 0, 0xa,
  0, 0, 0, 0, 0x80, 0, 0x80, 0x8b, 0x80, 0, 0, 0, 0, 0, 0, 0x8b, 0x80, 0, 0, 0, 0, 0, 0x80, 0x89, 0x80, 0, 0, 0, 0, 0, 0x80, 3,
  0x80, 0, 0, 0, 0, 0, 0x80, 2, 0x80, 0, 0, 0, 0, 0, 0, 0x80, 0, 0, 0, 0, 0, 0, 0x80, 0xa, 0x80, 0, 0, 0, 0x80, 0, 0, 0xa,
  0x80, 0, 0, 0, 0x80, 0, 0x80, 0x81, 0x80, 0, 0, 0, 0, 0, 0x80, 0x80, 0, 0, 0, 0, 0x80, 0, 0, 1, 0x80, 0, 0, 0, 0x80, 0, 0x80, 8]
def rcPstep (r : Nat) (c : UInt64) (n : Nat) : UInt64 := shl c 8 ||| (UInt8.ofNat (rcBytes.getD (8 * r + n) 0)).toUInt64
def rcP (r k : Nat) : UInt64 := (List.range k).foldl (rcPstep r) 0

theorem rc_same : ∀ r, r < 24 → rcP r 8 = rcR r 7 := by decide +kernel

/- how far the lanes are turned -/
def xy : Nat → Nat × Nat
  | 0 => (1, 0)
  | t + 1 => ((xy t).2, (2 * (xy t).1 + 3 * (xy t).2) % 5)
def turnStep (l : List Nat) (t : Nat) : List Nat := l.set ((xy t).1 + 5 * (xy t).2) ((t + 1) * (t + 2) / 2 % 64)
def turnsK (k : Nat) : List Nat := (List.range k).foldl turnStep (List.replicate 25 0)
theorem xy_lt (t : Nat) : (xy t).1 < 5 ∧ (xy t).2 < 5 := by
  induction t with
  | zero => decide
  | succ t ih => exact ⟨ih.2, Nat.mod_lt _ (by decide)⟩

/- bytes into words, and back -/
def xorStep (s : List UInt64) (i : Nat) (x : UInt8) : List UInt64 := s.set (i / 8) (wx (s.getD (i / 8) 0) (shl (wid x) (8 * (i % 8))))
/-- the first k bytes of b are added to s -/
def xorB (s : List UInt64) (b : List UInt8) (k : Nat) : List UInt64 := (List.range k).foldl (fun s i => xorStep s i (b.getD i 0)) s
def sByte (s : List UInt64) (i : Nat) : UInt8 := lo8 (shr (s.getD (i / 8) 0) (8 * (i % 8)))
def toB (s : List UInt64) (n : Nat) : List UInt8 := (List.range n).map (sByte s)
theorem xorB_succ (s : List UInt64) (b : List UInt8) (k : Nat) : xorB s b (k + 1) = xorStep (xorB s b k) k (b.getD k 0) := by simp [xorB, List.range_succ]
theorem xorB_len (s : List UInt64) (b : List UInt8) (k : Nat) : (xorB s b k).length = s.length := by
  induction k with
  | zero => simp [xorB]
  | succ k ih => rw [xorB_succ]; simp [xorStep, ih]
theorem toB_len (s : List UInt64) (n : Nat) : (toB s n).length = n := by simp [toB]
end Mvp

/- word functions of the sponge -/
namespace Go.Proofs.YtdbgddngapminaaGreat
open Go.RowKit Go.Mv Mvp

theorem ret_int {k : IntKind} {a b : Int} (h : a = b) : Ending.returned (.int k a) = .returned (.int k b) := by rw [h]

theorem rot_form (x : UInt64) (k : Nat) (hk : k < 64) : wo (shl x (k % 64)) (shr x (64 - k % 64)) = rotl x k := by
  rw [Nat.mod_eq_of_lt hk]; rfl
theorem rot_any (x : UInt64) (k : Nat) (hk : k < 64) (w : World) :
    Calls Tryz.prog 138 #[.int .u64 (x.toNat : Int), .int .i64 (k : Int)] w fun e w' => e = .returned (.int .u64 ((rotl x k).toNat : Int)) ∧ w = w' := by
  go_enter Tryz.func138, Tryz.ntmps138
  go_wp2
  go_ret
  exact ⟨ret_int (by rw [← rot_form x k hk]), rfl⟩
theorem left_any (x : UInt64) (k : Nat) (hk : k < 64) (w : World) :
    Calls Tryz.prog 135 #[.int .u64 (x.toNat : Int), .int .i64 (k : Int)] w fun e w' => e = .returned (.int .u64 ((rotl x k).toNat : Int)) ∧ ∃ n, w' = w.drewN n := by
  go_enter Tryz.func135, Tryz.ntmps135
  go_wp2
  go_quiet (fail)
  go_wp2
  go_ret
  exact ⟨rfl, nq, rfl⟩
theorem place_any (x y : Int) (w : World) (hx : 0 ≤ x) (hx' : x ≤ 1000) (hy : 0 ≤ y) (hy' : y ≤ 1000) :
    Calls Tryz.prog 134 #[.int .i64 x, .int .i64 y] w fun e w' => e = .returned (.int .i64 ((place x.toNat y.toNat : Nat) : Int)) ∧ w = w' := by
  go_enter Tryz.func134, Tryz.ntmps134
  go_wp2
  go_ret
  exact ⟨ret_int (by unfold place; omega), rfl⟩
theorem goesTo_any (i : Nat) (w : World) (hi : i ≤ 1000) :
    Calls Tryz.prog 139 #[.int .i64 (i : Int)] w fun e w' => e = .returned (.int .i64 ((goesTo i : Nat) : Int)) ∧ w = w' := by
  go_enter Tryz.func139, Tryz.ntmps139
  go_wp2
  go_ret
  exact ⟨ret_int (by unfold goesTo; omega), rfl⟩
set_option maxHeartbeats 400000 in
theorem bit_any (t : Int) (w : World) (hx : 0 ≤ t) (hx' : t ≤ 1000) :
    Calls Tryz.prog 136 #[.int .i64 t] w fun e w' => e = .returned (.int .u64 ((bitW t.toNat).toNat : Int)) ∧ w = w' := by
  go_enter Tryz.func136, Tryz.ntmps136
  go_wp2
  go_loop [3, 4] (fun r i => ∃ k : Nat, (k : Int) ≤ t ∧ i = .int .i64 k ∧ r = .int .i64 (lfsr k : Nat)) (fun _ i => (t - intOf i).toNat)
  case atStart => exact ⟨0, by omega, rfl, rfl⟩
  case round =>
    obtain ⟨k, hk, rfl, rfl⟩ := hrel
    have hb := lfsr_lt k
    by_cases hlt : (k : Int) < t
    · by_cases hc : 255 < 2 * lfsr k
      · go_wp2
        go_round
        case rel =>
          refine ⟨k + 1, by omega, by go_num, ?_⟩
          have e := xor_i64 (2 * lfsr k) 369 (by omega) (by omega)
          have e2 : lfsr (k + 1) = (2 * lfsr k) ^^^ 369 := by rw [lfsr, if_pos hc]
          rw [e2, ← e]; rfl
        case measure => simp [intOf]; omega
      · go_wp2
        go_round
        case rel =>
          refine ⟨k + 1, by omega, by go_num, ?_⟩
          have e2 : lfsr (k + 1) = 2 * lfsr k := by rw [lfsr, if_neg hc]
          rw [e2]; simp
        case measure => simp [intOf]; omega
    · go_wp2
      go_ret
      have hkt : t.toNat = k := by omega
      refine ⟨ret_int ?_, rfl⟩
      have e := and_i64 (lfsr k) 1 (by omega) (by omega)
      rw [show (1 : Int) = ((1 : Nat) : Int) from rfl, e, IntKind.wrap_u64, hkt, bitW, bitR, nat_mask1]
      simp
end Go.Proofs.YtdbgddngapminaaGreat

/- the constants of the rounds, and how far the lanes are turned -/
namespace Go.Proofs.YtdbgddngapminaaGreat
open Go.RowKit Go.Mv Mvp

theorem rcP_succ (r k : Nat) : rcP r (k + 1) = rcPstep r (rcP r k) k := by simp [rcP, List.range_succ]
theorem rcR_succ (r k : Nat) : rcR r (k + 1) = rcStep r (rcR r k) k := by simp [rcR, List.range_succ]

set_option maxHeartbeats 400000 in
theorem constP_any (r : Nat) (hr : r < 24) (w : World) :
    Calls Tryz.prog 140 #[.int .i64 (r : Int)] w fun e w' => e = .returned (.int .u64 ((rcP r 8).toNat : Int)) ∧ w = w' := by
  go_enter Tryz.func140, Tryz.ntmps140
  go_wp2
  go_loop [2, 4] (fun c i => ∃ k : Nat, k ≤ 8 ∧ i = .int .i64 k ∧ c = .int .u64 ((rcP r k).toNat : Int)) (fun _ i => (8 - intOf i).toNat)
  case atStart => exact ⟨0, by omega, rfl, rfl⟩
  case round =>
    obtain ⟨k, hk, rfl, rfl⟩ := hrel
    by_cases hlt : k < 8
    · go_wp2_with (first | (with_reducible refine wl_stop (o := ⟨some 13, _, _, _, _, _⟩) ?_))
      refine wl_index_str rfl rfl Tryz.underlying9 rfl rfl (8 * r + k) (by simp) ?_ (UInt8.ofNat (rcBytes.getD (8 * r + k) 0)) ?_ ?_
      · exact Nat.lt_of_lt_of_le (show 8 * r + k < 192 by omega) (by decide +kernel)
      · generalize hj : 8 * r + k = j
        have hj' : j < 192 := by omega
        clear hj
        revert j
        decide +kernel
      generalize hy : UInt8.ofNat (rcBytes.getD (8 * r + k) 0) = y
      have HY := Lib.hid hy; clear hy
      go_wp2
      go_round
      case rel => exact ⟨k + 1, by omega, by go_num, by rw [rcP_succ, rcPstep, HY.out]; rfl⟩
      case measure => simp [intOf]; omega
    · go_wp2
      go_ret
      have : k = 8 := by omega
      subst this
      exact ⟨rfl, rfl⟩

set_option maxHeartbeats 400000 in
theorem constR_any (r : Nat) (hr : r < 24) (w : World) :
    Calls Tryz.prog 129 #[.int .i64 (r : Int)] w fun e w' => e = .returned (.int .u64 ((rcR r 7).toNat : Int)) ∧ w = w' := by
  go_enter Tryz.func129, Tryz.ntmps129
  go_wp2
  go_loop [3, 4] (fun c i => ∃ k : Nat, k ≤ 7 ∧ i = .int .i64 k ∧ c = .int .u64 ((rcR r k).toNat : Int)) (fun _ i => (7 - intOf i).toNat)
  case atStart => exact ⟨0, by omega, rfl, rfl⟩
  case round =>
    obtain ⟨k, hk, rfl, rfl⟩ := hrel
    by_cases hlt : k < 7
    · obtain rfl | rfl | rfl | rfl | rfl | rfl | rfl : k = 0 ∨ k = 1 ∨ k = 2 ∨ k = 3 ∨ k = 4 ∨ k = 5 ∨ k = 6 := by omega
      all_goals
        go_wp2_with fail
        refine (bit_any _ _ (by omega) (by omega)).mono ?_
        rintro e w' ⟨rfl, rfl⟩
        go_wp2
        go_round
      case rel => exact ⟨1, by omega, by go_num, by rw [rcR_succ, rcStep, Nat.zero_add]; rfl⟩
      case measure => simp [intOf]
      case rel => exact ⟨2, by omega, by go_num, by rw [rcR_succ, rcStep]; rfl⟩
      case measure => simp [intOf]
      case rel => exact ⟨3, by omega, by go_num, by rw [rcR_succ, rcStep]; rfl⟩
      case measure => simp [intOf]
      case rel => exact ⟨4, by omega, by go_num, by rw [rcR_succ, rcStep]; rfl⟩
      case measure => simp [intOf]
      case rel => exact ⟨5, by omega, by go_num, by rw [rcR_succ, rcStep]; rfl⟩
      case measure => simp [intOf]
      case rel => exact ⟨6, by omega, by go_num, by rw [rcR_succ, rcStep]; rfl⟩
      case measure => simp [intOf]
      case rel => exact ⟨7, by omega, by go_num, by rw [rcR_succ, rcStep]; rfl⟩
      case measure => simp [intOf]
    · go_wp2
      go_ret
      have : k = 7 := by omega
      subst this
      exact ⟨rfl, rfl⟩
end Go.Proofs.YtdbgddngapminaaGreat

/- how far the lanes are turned -/
namespace Go.Proofs.YtdbgddngapminaaGreat
open Go.RowKit Go.Mv Mvp

theorem size_a25i : (Tryz.prog.info? 176).map (·.size) = some 25 := by kernel_rfl
theorem info_int : (Tryz.prog.info? 3).map (fun i => (i.zero, i.size, i.bytes)) = some (some (.int .i64 0), 1, 8) := by kernel_rfl
theorem turnsK_succ (k : Nat) : turnsK (k + 1) = turnStep (turnsK k) k := by simp [turnsK, List.range_succ]
theorem turnsK_len (k : Nat) : (turnsK k).length = 25 := by
  induction k with
  | zero => simp [turnsK]
  | succ k ih => rw [turnsK_succ]; simp [turnStep, ih]

set_option maxHeartbeats 800000 in
theorem turns_any (w : World) :
    Calls Tryz.prog 137 #[] w fun e w' => e = .returned (.agg (is (turnsK 24)).toArray) ∧ Fr Nob w w' := by
  go_enter Tryz.func137, Tryz.ntmps137
  go_wp2
  go_loopw [1, 2, 4] (fun x y i wr => ∃ k : Nat, k ≤ 24 ∧ i = .int .i64 k ∧ x = .int .i64 ((xy k).1 : Nat) ∧ y = .int .i64 ((xy k).2 : Nat) ∧ Has wr w.heap.size (is (turnsK k)) 176 ∧ Fr Nob w wr) (fun _ _ i _ => (24 - intOf i).toNat)
  case atStart =>
    refine ⟨0, by omega, rfl, rfl, rfl, ?_, (Fr.refl _ _).alloc _⟩
    exact Has.new w _ _
  case round =>
    obtain ⟨k, hk, rfl, rfl, rfl, hh, hf⟩ := hrel
    have hxy := xy_lt k
    by_cases hlt : k < 24
    · obtain ⟨v0, hc, hfr⟩ := hh.ready (i := (xy k).1 + 5 * (xy k).2) (by rw [length_is, turnsK_len]; omega)
      have hp : (0 : Int) ≤ ((k : Int) + 1) * ((k : Int) + 2) ∧ ((k : Int) + 1) * ((k : Int) + 2) ≤ 650 := by
        refine ⟨Int.mul_nonneg (by omega) (by omega), ?_⟩
        have := Int.mul_le_mul (show (k : Int) + 1 ≤ 24 by omega) (show (k : Int) + 2 ≤ 25 by omega) (by omega) (by omega)
        omega
      go_wp2
      go_roundw
      case rel =>
        refine ⟨k + 1, by omega, by go_num, rfl, by simp [xy], ?_, hf.setCell _ _ _ _ (fun h => absurd h (Nat.lt_irrefl _))⟩
        have e : ((k : Int) + 1) * ((k : Int) + 2) / 2 % 64 = (((k + 1) * (k + 2) / 2 % 64 : Nat) : Int) := by simp
        rw [e, turnsK_succ, turnStep, ← is_set]
        exact hh.set _ _
      case measure => simp [intOf]; omega
    · go_wp2_with (first | (with_reducible refine wl_stop (o := ⟨some 27, _, _, _, _, _⟩) ?_))
      have hk24 : k = 24 := by omega
      subst hk24
      refine wl_loadA rfl rfl Tryz.underlying176 rfl hh (is (turnsK 24)) (by simp) (by rw [length_is, turnsK_len]; exact size_a25i) ?_
      go_wp2_with (first | (with_reducible refine wl_stop (o := ⟨none, .store 176 _ _, _, _, _, _⟩) ?_))
      refine wl_storeA rfl rfl rfl rfl hh (by simp) (by rw [length_is, turnsK_len]; exact size_a25i) ?_ ?_
      · intro v hv; simp [is] at hv; obtain ⟨x, _, rfl⟩ := hv; rfl
      intro w2 hh2 hf2 hz2
      go_wp2
      rw [splice_whole _ _ rfl] at hh2
      exact bodyPost_ret (results_arr rfl rfl hh2 Tryz.underlying176 (by rw [length_is, turnsK_len]; exact size_a25i)) rfl ⟨rfl, hf.new hf2 (Nat.le_refl _)⟩

set_option maxHeartbeats 800000 in
theorem offsets_any (w : World) :
    Calls Tryz.prog 127 #[] w fun e w' => e = .returned (.slice (some ⟨w.heap.size, 0, none⟩) 25 25) ∧ Has w' w.heap.size (is (turnsK 24)) 3 ∧ Fr Nob w w' := by
  go_enter Tryz.func127, Tryz.ntmps127
  go_wp2_with (at_make; refine wl_make rfl rfl Tryz.underlying168 info_int rfl rfl rfl 25 25 (by simp) (by simp) (by omega) (by omega) (by unfold maxLen; omega) ?_; intro w1 hw1 hf1 hz1)
  go_loopw [2, 3, 4] (fun x y i wr => ∃ k : Nat, k ≤ 24 ∧ i = .int .i64 k ∧ x = .int .i64 ((xy k).1 : Nat) ∧ y = .int .i64 ((xy k).2 : Nat) ∧ Has wr w.heap.size (is (turnsK k)) 3 ∧ Fr Nob w wr) (fun _ _ i _ => (24 - intOf i).toNat)
  case atStart => exact ⟨0, by omega, rfl, rfl, rfl, hw1, hf1⟩
  case round =>
    obtain ⟨k, hk, rfl, rfl, rfl, hh, hf⟩ := hrel
    have hxy := xy_lt k
    by_cases hlt : k < 24
    · have hpl : place (xy k).1 (xy k).2 = (xy k).1 + 5 * (xy k).2 := by unfold place; rw [Nat.mod_eq_of_lt hxy.1, Nat.mod_eq_of_lt hxy.2]
      have HP := Lib.hid hpl; clear hpl
      have hpb : place (xy k).1 (xy k).2 < 25 := by rw [HP.out]; omega
      obtain ⟨v0, hc, hfr⟩ := hh.ready (i := place (xy k).1 (xy k).2) (by rw [length_is, turnsK_len]; omega)
      have hp : (0 : Int) ≤ ((k : Int) + 1) * ((k : Int) + 2) ∧ ((k : Int) + 1) * ((k : Int) + 2) ≤ 650 := by
        refine ⟨Int.mul_nonneg (by omega) (by omega), ?_⟩
        have := Int.mul_le_mul (show (k : Int) + 1 ≤ 24 by omega) (show (k : Int) + 2 ≤ 25 by omega) (by omega) (by omega)
        omega
      go_wp2_with (go_at_call 134; refine (place_any _ _ _ (by omega) (by omega) (by omega) (by omega)).mono ?_; rintro e w' ⟨rfl, rfl⟩)
      go_roundw
      case rel =>
        refine ⟨k + 1, by omega, by go_num, rfl, by simp [xy], ?_, hf.setCell _ _ _ _ (fun h => absurd h (Nat.lt_irrefl _))⟩
        have e : ((k : Int) + 1) * ((k : Int) + 2) / 2 % 64 = (((k + 1) * (k + 2) / 2 % 64 : Nat) : Int) := by simp
        rw [e, turnsK_succ, turnStep, ← is_set, ← HP.out]
        exact hh.set _ _
      case measure => simp [intOf]; omega
    · go_wp2
      have hk24 : k = 24 := by omega
      subst hk24
      go_ret
      exact ⟨rfl, hh, hf⟩
end Go.Proofs.YtdbgddngapminaaGreat

/- the state: bytes are added, and given -/
namespace Go.Proofs.YtdbgddngapminaaGreat
open Go.RowKit Go.Mv Mvp

set_option maxHeartbeats 800000 in
/-- xor: the state lies at the beginning of block g -/
theorem xor_any (g : Nat) (S : List UInt64) (tail : List Value) (T : TypeId) (b : Option Addr) (n c : Nat) (l : List UInt8) (w : World) (hS : S.length = 25) (hn : n ≤ 200) (hg : Has w g (ws S ++ tail) T) (hb : RdB w b n l) (hbg : Off (One g) b) :
    Calls Tryz.prog 131 #[.pointer (some ⟨g, 0, none⟩), .slice b n c] w fun e w' => e = .returned (.tuple #[]) ∧ Has w' g (ws (xorB S l n) ++ tail) T ∧ Fr (One g) w w' ∧ w'.heap.size = w.heap.size := by
  go_enter Tryz.func131, Tryz.ntmps131
  go_wp2
  go_loopw [8] (fun i wr => ∃ k : Nat, k ≤ n ∧ i = .int .i64 k ∧ Has wr g (ws (xorB S l k) ++ tail) T ∧ Fr (One g) w wr ∧ wr.heap.size = w.heap.size) (fun i _ => (n - intOf i).toNat)
  case atStart => exact ⟨0, by omega, rfl, hg, Fr.refl _ _, rfl⟩
  case round =>
    obtain ⟨k, hk, rfl, hh, hf, hz⟩ := hrel
    by_cases hlt : k < n
    · obtain ⟨bb, o, rfl, hcb0⟩ := (hb.keep hf hbg).at (by omega)
      have hcb := hcb0 k hlt
      clear hcb0
      have hlen := xorB_len S l k
      have hi8 : k / 8 < (ws (xorB S l k)).length := by rw [length_ws, hlen]; omega
      have hc : wr.cell? ⟨g, k / 8, none⟩ = some (.int .u64 (((xorB S l k).getD (k / 8) 0).toNat : Int)) := hh.cell (by rw [List.getElem?_append_left hi8]; exact ws_get _ _ (by rw [hlen]; omega))
      have hfr : wr.frozen? ⟨g, k / 8, none⟩ = false := hh.free _ (by rw [List.length_append]; omega)
      have hlo : (0 : Int) ≤ (k : Int) / 8 ∧ (k : Int) / 8 < 25 := by omega
      generalize hy : (xorB S l k).getD (k / 8) 0 = y at hc
      generalize hx : l.getD k 0 = x at hcb
      have HY := Lib.hid hy; clear hy
      have HX := Lib.hid hx; clear hx
      have HL := Lib.hid hlen; clear hlen hi8
      have HZ := Lib.hid hz; clear hz
      go_wp2
      go_region
      all_goals go_wp2
      go_roundw
      case rel =>
        refine ⟨k + 1, by omega, by go_num, ?_, (hf.setCell _ _ _ _ (fun _ => rfl)).drew, by have := HZ.out; simpa [World.setCell] using this⟩
        have h1 := (hh.set (k / 8) (.int .u64 ((wx y (shl (wid x) (8 * (k % 8)))).toNat : Int))).drew
        rw [List.set_append_left _ _ (by rw [length_ws, HL.out]; omega), ws_set, ← HY.out, ← HX.out] at h1
        rw [xorB_succ, xorStep, ← HY.out, ← HX.out]
        exact h1
      case measure => simp [intOf]; omega
    · go_wp2
      go_end0
      have : k = n := by omega
      subst this
      exact ⟨rfl, hh, hf, hz⟩
end Go.Proofs.YtdbgddngapminaaGreat

/- the state's bytes; Permute -/
namespace Go.Proofs.YtdbgddngapminaaGreat
open Go.RowKit Go.Mv Mvp

theorem toB_at (S : List UInt64) (n i : Nat) (h : i < n) : (toB S n).getD i 0 = sByte S i := by
  simp [toB, List.getD_eq_getElem?_getD, List.getElem?_range h]

set_option maxHeartbeats 800000 in
theorem bytes_any (g : Nat) (S : List UInt64) (tail : List Value) (T : TypeId) (n : Nat) (w : World) (hS : S.length = 25) (hn : n ≤ 200) (hg : Has w g (ws S ++ tail) T) :
    Calls Tryz.prog 133 #[.pointer (some ⟨g, 0, none⟩), .int .i64 (n : Int)] w fun e w' => e = .returned (.slice (some ⟨w.heap.size, 0, none⟩) n n) ∧ Has w' w.heap.size (bs (toB S n)) 5 ∧ Fr Nob w w' ∧ w'.heap.size = w.heap.size + 1 := by
  go_enter Tryz.func133, Tryz.ntmps133
  go_wp2_with (at_make; refine wl_make rfl rfl Tryz.underlying22 info_u8 rfl rfl rfl n n rfl rfl (by omega) (by omega) (by unfold maxLen; omega) ?_; intro w1 hw1 hf1 hz1)
  have hgl := hg.lt
  go_loopw [11] (fun i wr => ∃ k : Nat, k ≤ n ∧ i = .int .i64 k ∧ Has wr w.heap.size (bs (fill (toB S n) (List.replicate n 0) k)) 5 ∧ Has wr g (ws S ++ tail) T ∧ Fr Nob w wr ∧ wr.heap.size = w.heap.size + 1) (fun i _ => (n - intOf i).toNat)
  case atStart =>
    refine ⟨0, by omega, rfl, ?_, hg.keep hf1 id, hf1, hz1⟩
    rw [fill_zero]; simpa [bs] using hw1
  case round =>
    obtain ⟨k, hk, rfl, hh, hg2, hf, hz⟩ := hrel
    by_cases hlt : k < n
    · obtain ⟨v0, hc0, hfr0⟩ := hh.ready (i := k) (by rw [length_bs, fill_length _ _ _ (by simp [toB_len])]; simpa using hlt)
      have hi8 : k / 8 < (ws S).length := by rw [length_ws, hS]; omega
      have hc : wr.cell? ⟨g, k / 8, none⟩ = some (.int .u64 ((S.getD (k / 8) 0).toNat : Int)) := hg2.cell (by rw [List.getElem?_append_left hi8]; exact ws_get _ _ (by rw [hS]; omega))
      have hlo : (0 : Int) ≤ (k : Int) / 8 ∧ (k : Int) / 8 < 25 := by omega
      generalize hy : S.getD (k / 8) 0 = y at hc
      have HY := Lib.hid hy; clear hy
      have HS := Lib.hid hS; clear hS hi8
      have HZ := Lib.hid hz; clear hz hz1 hw1
      go_wp2
      go_roundw
      case rel =>
        have e : (toB S n).getD k 0 = lo8 (shr y (8 * (k % 8))) := by rw [toB_at S n k hlt, sByte, HY.out]
        refine ⟨k + 1, by omega, by go_num, ?_, hg2.other _ _ _ (by omega), hf.setCell _ _ _ _ (fun h => absurd h (Nat.lt_irrefl _)), by have := HZ.out; simpa [World.setCell] using this⟩
        rw [← e]
        exact hh.fillB (by simp [toB_len]) (by simpa [toB_len] using hlt)
      case measure => simp [intOf]; omega
    · go_wp2
      go_ret
      obtain rfl : k = n := by omega
      rw [fill_all _ _ _ (by simp [toB_len]) (by simp [toB_len])] at hh
      exact ⟨rfl, hh, hf, hz⟩
end Go.Proofs.YtdbgddngapminaaGreat

/- the permutation of the program -/
namespace Go.Proofs.YtdbgddngapminaaGreat
open Go.RowKit Go.Mv Mvp

theorem colP_succ (s : List UInt64) (k : Nat) : colP s (k + 1) = colStep s (colP s k) k := by simp [colP, List.range_succ]
theorem colP_len (s : List UInt64) (k : Nat) : (colP s k).length = 5 := by
  induction k with
  | zero => simp [colP]
  | succ k ih => rw [colP_succ]; simp [colStep, ih]
theorem movP_succ (s c : List UInt64) (t : List Nat) (k : Nat) : movP s c t (k + 1) = movStep s c t (movP s c t k) k := by simp [movP, List.range_succ]
theorem movP_len (s c : List UInt64) (t : List Nat) (k : Nat) : (movP s c t k).length = 25 := by
  induction k with
  | zero => simp [movP]
  | succ k ih => rw [movP_succ]; simp [movStep, ih]

theorem zero_a25i : (Tryz.prog.info? 176).map (·.zero) = some (some (.agg (is (List.replicate 25 0)).toArray)) := by kernel_rfl
theorem zero_state : (Tryz.prog.info? 162).map (·.zero) = some (some (.agg (ws (List.replicate 25 0)).toArray)) := by kernel_rfl
theorem zero_a5 : (Tryz.prog.info? 178).map (·.zero) = some (some (.agg (ws (List.replicate 5 0)).toArray)) := by kernel_rfl

theorem size_u64w : (Tryz.prog.info? 30).map (·.size) = some 1 := by kernel_rfl
theorem permP_zero (t : List Nat) (rc : Nat → UInt64) (s : List UInt64) : permP t rc s 0 = s := by simp [permP]

theorem chiP_zero (m s : List UInt64) : chiP m s 0 = s := by simp [chiP]
theorem chiP_succ (m s : List UInt64) (k : Nat) : chiP m s (k + 1) = chiRow m (chiP m s k) (5 * k) 5 := by simp [chiP, List.range_succ]
theorem chiRow_zero (m s : List UInt64) (y : Nat) : chiRow m s y 0 = s := by simp [chiRow]
theorem chiRow_succ (m s : List UInt64) (y k : Nat) : chiRow m s y (k + 1) = chiStep m y (chiRow m s y k) k := by simp [chiRow, List.range_succ]
theorem chiRow_len (m s : List UInt64) (y k : Nat) : (chiRow m s y k).length = s.length := by
  induction k with
  | zero => simp [chiRow]
  | succ k ih => rw [chiRow_succ]; simp [chiStep, ih]
theorem turns_lt (k : Nat) : (turnsK 24).getD k 0 < 64 := by
  have h : ∀ k, k < 25 → (turnsK 24).getD k 0 < 64 := by decide +kernel
  rcases Nat.lt_or_ge k 25 with hk | hk
  · exact h k hk
  · rw [List.getD_eq_getElem?_getD, List.getElem?_eq_none (by rw [turnsK_len]; exact hk)]; simp
theorem goesTo_lt (k : Nat) (hk : k < 25) : goesTo k < 25 := by
  have h : ∀ k, k < 25 → goesTo k < 25 := by decide +kernel
  exact h k hk

theorem goesTo_same (k : Nat) (w : World) (hk : k ≤ 25) : Calls Tryz.prog 139 #[.int .i64 (k : Int)] w fun e w' => e = .returned (.int .i64 ((goesTo k : Nat) : Int)) ∧ w' = w :=
  (goesTo_any k w (by omega)).mono (fun _ _ h => ⟨h.1, h.2.symm⟩)
theorem rot_same (x : UInt64) (n : Nat) (hn : n < 64) (w : World) : Calls Tryz.prog 138 #[.int .u64 (x.toNat : Int), .int .i64 (n : Int)] w fun e w' => e = .returned (.int .u64 ((rotl x n).toNat : Int)) ∧ w' = w :=
  (rot_any x n hn w).mono (fun _ _ h => ⟨h.1, h.2.symm⟩)
theorem constP_same (r : Nat) (hr : r < 24) (w : World) : Calls Tryz.prog 140 #[.int .i64 (r : Int)] w fun e w' => e = .returned (.int .u64 ((rcP r 8).toNat : Int)) ∧ w' = w :=
  (constP_any r hr w).mono (fun _ _ h => ⟨h.1, h.2.symm⟩)
theorem rot1_any (x : UInt64) (w : World) : Calls Tryz.prog 138 #[.int .u64 (x.toNat : Int), .int .i64 1] w fun e w' => e = .returned (.int .u64 ((rotl x 1).toNat : Int)) ∧ w' = w :=
  (rot_any x 1 (by omega) w).mono (fun _ _ h => ⟨h.1, h.2.symm⟩)

set_option maxHeartbeats 4000000 in
set_option maxRecDepth 1000000 in
theorem permute_any (g : Nat) (S : List UInt64) (tail : List Value) (T : TypeId) (w : World) (hS : S.length = 25) (hg : Has w g (ws S ++ tail) T) :
    Calls Tryz.prog 132 #[.pointer (some ⟨g, 0, none⟩)] w fun e w' => e = .returned (.tuple #[]) ∧ Has w' g (ws (permP (turnsK 24) (fun r => rcP r 8) S 24) ++ tail) T ∧ Fr (One g) w w' := by
  go_enter Tryz.func132, Tryz.ntmps132
  go_wp2_with (first
    | (go_at_call 137; refine (turns_any _).mono ?_; rintro e w1 ⟨rfl, hf1⟩)
    | (with_reducible refine wl_stop (o := ⟨_, .alloc 176, _, _, _, _⟩) ?_))
  have hgl := hg.lt
  refine wl_alloc rfl rfl zero_a25i (is (List.replicate 25 0)) (by simp [Value.cells]) ?_
  intro w2 hb2 hf2 hz2
  have hg2 := (hg.keep hf1 id).keep hf2 id
  have hgs := hf1.size
  generalize hbt : w1.heap.size = bt at *
  go_wp2_with (with_reducible refine wl_stop (o := ⟨none, .store 176 _ _, _, _, _, _⟩) ?_)
  refine wl_storeA rfl rfl rfl rfl hb2 (by simp [length_is, turnsK_len]) (by rw [length_is, turnsK_len]; exact size_a25i) ?_ ?_
  · intro v hv; simp [is] at hv; obtain ⟨x, _, rfl⟩ := hv; rfl
  intro w3 hb3 hf3 hz3
  rw [splice_whole _ _ (by simp [length_is, turnsK_len])] at hb3
  have hg3 := hg2.keep hf3 (fun (h : g = bt) => by omega)
  have hfr : Fr (One g) w w3 := ((Fr.refl (One g) w).same hf1).same hf2 |>.new hf3 (by omega)
  clear hb2 hg2 hf1 hf2 hf3 hg
  go_wp2_with fail
  go_loopw [15] (fun i wr => ∃ r : Nat, r ≤ 24 ∧ i = .int .i64 r ∧ Has wr g (ws (permP (turnsK 24) (fun r => rcP r 8) S r) ++ tail) T ∧ Has wr bt (is (turnsK 24)) 176 ∧ Fr (One g) w wr) (fun i _ => (24 - intOf i).toNat)
  case atStart => exact ⟨0, by omega, rfl, by rw [permP_zero]; exact hg3, hb3, hfr⟩
  case round =>
    obtain ⟨r, hr, rfl, hgr, hbr, hf⟩ := hrel
    clear hg3 hb3 hfr
    by_cases hlt : r < 24
    · have hltI : (r : Int) < 24 := by omega
      have hpl := permP_len (turnsK 24) (fun r => rcP r 8) S r
      rw [hS] at hpl
      generalize hrs : permP (turnsK 24) (fun r => rcP r 8) S r = s at *
      have HR := Lib.hid hrs; clear hrs
      go_wp2_with (with_reducible refine wl_stop (o := ⟨_, .alloc 178, _, _, _, _⟩) ?_)
      refine wl_alloc rfl rfl zero_a5 (ws (List.replicate 5 0)) (by simp [Value.cells]) ?_
      intro w4 hc4 hf4 hz4
      have hg4 := hgr.keep hf4 id
      have hb4 := hbr.keep hf4 id
      have hfr4 := hf.same hf4
      have hgc := hgr.lt
      have hbc := hbr.lt
      have hwc := hf.size
      generalize wr.heap.size = gc at *
      clear hgr hbr hf hf4 hz4
      go_wp2_with fail
      go_loopw [19] (fun i wr => ∃ k : Nat, k ≤ 25 ∧ i = .int .i64 k ∧ Has wr gc (ws (colP s k)) 178 ∧ Has wr g (ws s ++ tail) T ∧ Has wr bt (is (turnsK 24)) 176 ∧ Fr (One g) w wr) (fun i _ => (25 - intOf i).toNat)
      case atStart => exact ⟨0, by omega, rfl, hc4, hg4, hb4, hfr4⟩
      case round =>
        obtain ⟨k, hk, rfl, hck, hgk, hbk, hf⟩ := hrel
        clear hc4 hg4 hb4 hfr4
        by_cases hlt2 : k < 25
        · have hs : wr.cell? ⟨g, k, none⟩ = some (.int .u64 ((s.getD k 0).toNat : Int)) := hgk.cell (by rw [List.getElem?_append_left (by rw [length_ws, hpl]; exact hlt2)]; exact ws_get _ _ (by rw [hpl]; exact hlt2))
          have hc : wr.cell? ⟨gc, k % 5, none⟩ = some (.int .u64 (((colP s k).getD (k % 5) 0).toNat : Int)) := hck.cell (ws_get _ _ (by rw [colP_len]; omega))
          have hfc : wr.frozen? ⟨gc, k % 5, none⟩ = false := hck.free _ (by rw [length_ws, colP_len]; omega)
          have hlo : (0 : Int) ≤ (k : Int) ∧ (k : Int) < 25 ∧ (0 : Int) ≤ (k : Int) % 5 ∧ (k : Int) % 5 < 5 := by omega
          generalize hx : s.getD k 0 = x at hs
          generalize hy : (colP s k).getD (k % 5) 0 = y at hc
          have HX := Lib.hid hx; clear hx
          have HY := Lib.hid hy; clear hy
          have HS := Lib.hid hpl; clear hpl
          have HS2 := Lib.hid hS; clear hS
          go_wp2
          go_region
          all_goals go_wp2
          go_roundw
          case rel =>
            have e : colP s (k + 1) = (colP s k).set (k % 5) (wx y x) := by rw [colP_succ, colStep, HX.out, HY.out]; rfl
            refine ⟨k + 1, by omega, by go_num, ?_, (hgk.other _ _ _ (by omega)).drew, (hbk.other _ _ _ (by omega)).drew, (hf.setCell _ _ _ _ (fun h => by omega)).drew⟩
            rw [e, ← ws_set]
            exact (hck.set _ _).drew
          case measure => simp [intOf]; omega
        · have hk25 : k = 25 := by omega
          subst hk25
          go_wp2_with (with_reducible refine wl_stop (o := ⟨_, .alloc 162, _, _, _, _⟩) ?_)
          refine wl_alloc rfl rfl zero_state (ws (List.replicate 25 0)) (by simp [Value.cells]) ?_
          intro w5 hm5 hf5 hz5
          have hc5 := hck.keep hf5 id
          have hg5 := hgk.keep hf5 id
          have hb5 := hbk.keep hf5 id
          have hfr5 := hf.same hf5
          have hcm := hck.lt
          have hgm := hgk.lt
          have hbm := hbk.lt
          have hwm := hf.size
          generalize wr.heap.size = gm at *
          generalize hcol : colP s 25 = col at *
          clear hck hgk hbk hf hf5 hz5
          have hcl : col.length = 5 := by rw [← hcol, colP_len]
          have HC := Lib.hid hcol; clear hcol
          have HCL := Lib.hid hcl; clear hcl
          go_wp2_with fail
          go_loopw [34] (fun i wr => ∃ k : Nat, k ≤ 25 ∧ i = .int .i64 k ∧ Has wr gm (ws (movP s col (turnsK 24) k)) 162 ∧ Has wr gc (ws col) 178 ∧ Has wr g (ws s ++ tail) T ∧ Has wr bt (is (turnsK 24)) 176 ∧ Fr (One g) w wr) (fun i _ => (25 - intOf i).toNat)
          case atStart => exact ⟨0, by omega, rfl, hm5, hc5, hg5, hb5, hfr5⟩
          case round =>
            obtain ⟨k, hk, rfl, hmk, hck, hgk, hbk, hf⟩ := hrel
            clear hm5 hc5 hg5 hb5 hfr5
            by_cases hlt3 : k < 25
            · have hs : wr.cell? ⟨g, k, none⟩ = some (.int .u64 ((s.getD k 0).toNat : Int)) := hgk.cell (by rw [List.getElem?_append_left (by rw [length_ws, hpl]; exact hlt3)]; exact ws_get _ _ (by rw [hpl]; exact hlt3))
              have hc4 : wr.cell? ⟨gc, (k + 4) % 5, none⟩ = some (.int .u64 ((col.getD ((k + 4) % 5) 0).toNat : Int)) := hck.cell (ws_get _ _ (by rw [HCL.out]; omega))
              have hc1 : wr.cell? ⟨gc, (k + 1) % 5, none⟩ = some (.int .u64 ((col.getD ((k + 1) % 5) 0).toNat : Int)) := hck.cell (ws_get _ _ (by rw [HCL.out]; omega))
              have hby : wr.cell? ⟨bt, k, none⟩ = some (.int .i64 (((turnsK 24).getD k 0 : Nat) : Int)) := hbk.cell (is_get _ _ (by rw [turnsK_len]; exact hlt3))
              have hbl : (turnsK 24).getD k 0 < 64 := turns_lt k
              have hgt : goesTo k < 25 := goesTo_lt k hlt3
              obtain ⟨v0, hcm0, hfm0⟩ := hmk.ready (i := goesTo k) (by rw [length_ws, movP_len]; exact hgt)
              have hlo : (0 : Int) ≤ (k : Int) ∧ (k : Int) < 25 ∧ (0 : Int) ≤ ((k : Int) + 4) % 5 ∧ ((k : Int) + 4) % 5 < 5 ∧ (0 : Int) ≤ ((k : Int) + 1) % 5 ∧ ((k : Int) + 1) % 5 < 5 := by omega
              generalize hx : s.getD k 0 = x at hs
              generalize hy4 : col.getD ((k + 4) % 5) 0 = y4 at hc4
              generalize hy1 : col.getD ((k + 1) % 5) 0 = y1 at hc1
              generalize hn : (turnsK 24).getD k 0 = n at hby hbl
              have HX := Lib.hid hx; clear hx
              have HY4 := Lib.hid hy4; clear hy4
              have HY1 := Lib.hid hy1; clear hy1
              have HN := Lib.hid hn; clear hn
              have HS := Lib.hid hpl; clear hpl
              have HS2 := Lib.hid hS; clear hS
              go_wp2
              go_region
              all_goals go_wp2
              have e1 : IntKind.i64.wrap ((k : Int) + 4) = (k : Int) + 4 := IntWalk.i64_in _ (by omega)
              have e2 : ((k : Int) + 4).tmod 5 = ((k : Int) + 4) % 5 := Int.tmod_eq_emod_of_nonneg (by omega)
              have e3 : (((k : Int) + 4) % 5).toNat = (k + 4) % 5 := by omega
              have e4 : IntKind.i64.wrap ((k : Int) + 1) = (k : Int) + 1 := IntWalk.i64_in _ (by omega)
              have e5 : ((k : Int) + 1).tmod 5 = ((k : Int) + 1) % 5 := Int.tmod_eq_emod_of_nonneg (by omega)
              have e6 : (((k : Int) + 1) % 5).toNat = (k + 1) % 5 := by omega
              go_quiet ((go_at_call 138; exact quiet_more (rot1_any _ _)))
              clear e1 e2 e3 e4 e5 e6
              go_wp2_with fail
              have HG := Lib.hid hgt; clear hgt
              have hgi : (0 : Int) ≤ (goesTo k : Int) ∧ (goesTo k : Int) < 25 := by have := HG.out; omega
              have hmz := hmk.drew.drewN nq
              have hcz := hck.drew.drewN nq
              have hgz := hgk.drew.drewN nq
              have hbz := hbk.drew.drewN nq
              have hfz := hf.drew.drewN nq
              have hbyz : (wr.drew.drewN nq).cell? ⟨bt, k, none⟩ = some (.int .i64 (n : Int)) := hby
              have hmcz : (wr.drew.drewN nq).cell? ⟨gm, goesTo k, none⟩ = some v0 := hcm0
              have hmfz : (wr.drew.drewN nq).frozen? ⟨gm, goesTo k, none⟩ = false := hfm0
              clear hmk hck hgk hbk hf hby hcm0 hfm0 hs hc4 hc1
              generalize wr.drew.drewN nq = wz at *
              clear wr
              refine wp_region_still_tail 8 (by kernel_rfl) (by kernel_rfl) ?_
              simp only [List.take_succ_cons, List.take_zero, List.drop_succ_cons, List.drop_zero]
              repeat still_step
              still_call (goesTo_same k _ hk)
              repeat still_step
              still_call (rot_same _ n hbl _)
              repeat still_step
              refine wpStill_nil ?_
              go_wp2
              go_roundw
              case rel =>
                have e : movP s col (turnsK 24) (k + 1) = (movP s col (turnsK 24) k).set (goesTo k) (rotl (wx x (wx y4 (rotl y1 1))) n) := by
                  rw [movP_succ, movStep, HX.out, HY4.out, HY1.out, HN.out]; rfl
                refine ⟨k + 1, by omega, by go_num, ?_, (hcz.other _ _ _ (by omega)).drew, (hgz.other _ _ _ (by omega)).drew, (hbz.other _ _ _ (by omega)).drew, (hfz.setCell _ _ _ _ (fun h => by omega)).drew⟩
                rw [e, ← ws_set]
                exact (hmz.set _ _).drew
              case measure => simp [intOf]; omega
            · obtain rfl : k = 25 := by omega
              have hml := movP_len s col (turnsK 24) 25
              have hmw : movP s col (turnsK 24) 25 = movP s (colP s 25) (turnsK 24) 25 := by rw [HC.out]
              generalize hmv : movP s col (turnsK 24) 25 = mv at *
              have HM := Lib.hid hmw; clear hmw hmv
              have HML := Lib.hid hml; clear hml
              have HPL := Lib.hid hpl; clear hpl
              have HS2 := Lib.hid hS; clear hS
              clear hck
              go_wp2_with fail
              go_loopw [10] (fun i wr => ∃ j : Nat, j ≤ 5 ∧ i = .int .i64 ((5 * j : Nat) : Int) ∧ Has wr gm (ws mv) 162 ∧ Has wr g (ws (chiP mv s j) ++ tail) T ∧ Has wr bt (is (turnsK 24)) 176 ∧ Fr (One g) w wr) (fun i _ => (25 - intOf i).toNat)
              case atStart => exact ⟨0, by omega, rfl, hmk, by rw [chiP_zero]; exact hgk, hbk, hf⟩
              case round =>
                obtain ⟨j, hj, rfl, hmj, hgj, hbj, hfj⟩ := hrel
                clear hmk hgk hbk hf
                by_cases hlt4 : j < 5
                · have hlo : (0 : Int) ≤ 5 * (j : Int) ∧ 5 * (j : Int) < 25 ∧ 5 * (j : Int) ≤ 20 := by omega
                  obtain ⟨wo, rfl⟩ : ∃ wo : World, wo = wr := ⟨_, rfl⟩
                  go_wp2_with (with_reducible refine wl_stop (o := ⟨some 72, _, _, _, _, _⟩) ?_)
                  refine wl_cutA rfl rfl Tryz.underlying162 size_u64w rfl rfl rfl rfl (5 * j) (5 * j + 5) (5 * j + 5) (by simp) (by simp) (by simp) (by omega) (by omega) (by omega) (by omega) ?_
                  have e5 : 5 * j + 5 - 5 * j = 5 := by omega
                  rw [e5]
                  clear e5
                  go_wp2_with fail
                  go_loopw [75] (fun i wr => ∃ x : Nat, x ≤ 5 ∧ i = .int .i64 x ∧ Has wr gm (ws mv) 162 ∧ Has wr g (ws (chiRow mv (chiP mv s j) (5 * j) x) ++ tail) T ∧ Has wr bt (is (turnsK 24)) 176 ∧ Fr (One g) w wr) (fun i _ => (5 - intOf i).toNat)
                  case atStart => exact ⟨0, by omega, rfl, hmj, by rw [chiRow_zero]; exact hgj, hbj, hfj⟩
                  case round =>
                    obtain ⟨x, hx, rfl, hmx, hgx, hbx, hfx⟩ := hrel
                    clear hmj hgj hbj hfj
                    by_cases hlt5 : x < 5
                    · have hml : mv.length = 25 := HML.out
                      have hsl : (chiRow mv (chiP mv s j) (5 * j) x).length = 25 := by rw [chiRow_len, chiP_len]; exact HPL.out
                      have hx0 : wr.cell? ⟨gm, 5 * j + x, none⟩ = some (.int .u64 ((mv.getD (5 * j + x) 0).toNat : Int)) := hmx.cell (ws_get _ _ (by omega))
                      have hx1 : wr.cell? ⟨gm, 5 * j + (x + 1) % 5, none⟩ = some (.int .u64 ((mv.getD (5 * j + (x + 1) % 5) 0).toNat : Int)) := hmx.cell (ws_get _ _ (by omega))
                      have hx2 : wr.cell? ⟨gm, 5 * j + (x + 2) % 5, none⟩ = some (.int .u64 ((mv.getD (5 * j + (x + 2) % 5) 0).toNat : Int)) := hmx.cell (ws_get _ _ (by omega))
                      obtain ⟨v0, hc0, hf0⟩ := hgx.ready (i := 5 * j + x) (by rw [List.length_append, length_ws, hsl]; omega)
                      have hlo5 : (0 : Int) ≤ (x : Int) ∧ (x : Int) < 5 ∧ (0 : Int) ≤ ((x : Int) + 1) % 5 ∧ ((x : Int) + 1) % 5 < 5 ∧ (0 : Int) ≤ ((x : Int) + 2) % 5 ∧ ((x : Int) + 2) % 5 < 5 := by omega
                      have hlo6 : (0 : Int) ≤ 5 * (j : Int) + (x : Int) ∧ 5 * (j : Int) + (x : Int) < 25 := by omega
                      generalize hy0 : mv.getD (5 * j + x) 0 = y0 at hx0
                      generalize hy1 : mv.getD (5 * j + (x + 1) % 5) 0 = y1 at hx1
                      generalize hy2 : mv.getD (5 * j + (x + 2) % 5) 0 = y2 at hx2
                      have HY0 := Lib.hid hy0; clear hy0
                      have HY1 := Lib.hid hy1; clear hy1
                      have HY2 := Lib.hid hy2; clear hy2
                      have HSL := Lib.hid hsl; clear hsl hml
                      go_wp2_with fail
                      have e1 : IntKind.i64.wrap ((x : Int) + 1) = (x : Int) + 1 := IntWalk.i64_in _ (by omega)
                      have e2 : ((x : Int) + 1).tmod 5 = ((x : Int) + 1) % 5 := Int.tmod_eq_emod_of_nonneg (by omega)
                      have e3 : (((x : Int) + 1) % 5).toNat = (x + 1) % 5 := by omega
                      have e4 : IntKind.i64.wrap ((x : Int) + 2) = (x : Int) + 2 := IntWalk.i64_in _ (by omega)
                      have e5 : ((x : Int) + 2).tmod 5 = ((x : Int) + 2) % 5 := Int.tmod_eq_emod_of_nonneg (by omega)
                      have e6 : (((x : Int) + 2) % 5).toNat = (x + 2) % 5 := by omega
                      have e7 : IntKind.i64.wrap (5 * (j : Int) + (x : Int)) = 5 * (j : Int) + (x : Int) := IntWalk.i64_in _ (by omega)
                      have e8 : (5 * (j : Int) + (x : Int)).toNat = 5 * j + x := by omega
                      refine wp_region_still_tail 22 (by kernel_rfl) (by kernel_rfl) ?_
                      simp only [List.take_succ_cons, List.take_zero, List.drop_succ_cons, List.drop_zero]
                      repeat still_step
                      refine wpStill_nil ?_
                      go_wp2
                      go_roundw
                      case rel =>
                        have e : chiRow mv (chiP mv s j) (5 * j) (x + 1) = (chiRow mv (chiP mv s j) (5 * j) x).set (5 * j + x) (wx y0 (wa (wn y1) y2)) := by
                          rw [chiRow_succ, chiStep, HY0.out, HY1.out, HY2.out]; rfl
                        refine ⟨x + 1, by omega, by go_num, (hmx.other _ _ _ (by omega)).drew, ?_, (hbx.other _ _ _ (by omega)).drew, (hfx.setCell _ _ _ _ (fun _ => rfl)).drew⟩
                        rw [e, ← ws_set, ← List.set_append_left _ _ (by rw [length_ws, HSL.out]; omega)]
                        exact (hgx.set _ _).drew
                      case measure => simp [intOf]; omega
                    · have hge : ¬ ((x : Int) < 5) := by omega
                      have hx5 : x = 5 := by omega
                      have HX5 := Lib.hid hx5; clear hx5
                      go_wp2_with fail
                      go_roundw
                      case rel => exact ⟨j + 1, by omega, by omega, by rw [chiP_succ]; rw [HX5.out] at hgx; exact hgx⟩
                      case measure => simp [intOf]; omega
                · have hge : ¬ (5 * (j : Int) < 25) := by omega
                  have hj5 : j = 5 := by omega
                  have HJ5 := Lib.hid hj5; clear hj5
                  have hsl : (chiP mv s j).length = 25 := by rw [chiP_len]; exact HPL.out
                  have hc0 : wr.cell? ⟨g, 0, none⟩ = some (.int .u64 (((chiP mv s j).getD 0 0).toNat : Int)) := hgj.cell (by rw [List.getElem?_append_left (by rw [length_ws, hsl]; omega)]; exact ws_get _ _ (by rw [hsl]; omega))
                  have hf0 : wr.frozen? ⟨g, 0, none⟩ = false := hgj.free _ (by rw [List.length_append, length_ws, hsl]; omega)
                  generalize hy : (chiP mv s j).getD 0 0 = y at hc0
                  have HY := Lib.hid hy; clear hy
                  have HSL := Lib.hid hsl; clear hsl
                  go_wp2_with fail
                  refine wp_region_still_tail 9 (by kernel_rfl) (by kernel_rfl) ?_
                  simp only [List.take_succ_cons, List.take_zero, List.drop_succ_cons, List.drop_zero]
                  repeat still_step
                  still_call (constP_same r hlt _)
                  repeat still_step
                  refine wpStill_nil ?_
                  go_wp2
                  go_roundw
                  case rel =>
                    have e : permP (turnsK 24) (fun r => rcP r 8) S (r + 1) = (chiP mv s j).set 0 (wx y (rcP r 8)) := by
                      rw [permP_succ, HR.out, roundP, ← HM.out, ← HJ5.out, HY.out]; rfl
                    refine ⟨r + 1, by omega, by go_num, ?_, (hbj.other _ _ _ (by omega)).drew, (hfj.setCell _ _ _ _ (fun _ => rfl)).drew⟩
                    rw [e, ← ws_set, ← List.set_append_left _ _ (by rw [length_ws, HSL.out]; omega)]
                    exact (hgj.set _ _).drew
                  case measure => simp [intOf]; omega
    · obtain rfl : r = 24 := by omega
      go_wp2_with fail
      go_end0
      exact ⟨rfl, hgr, hf⟩
end Go.Proofs.YtdbgddngapminaaGreat

/- the reference's round -/
namespace Go.Proofs.YtdbgddngapminaaGreat
open Go.RowKit Go.Mv Mvp

theorem colR_succ (s : List UInt64) (k : Nat) : colR s (k + 1) = colRrow s (colR s k) k 5 := by simp [colR, List.range_succ]
theorem colRrow_zero (s c : List UInt64) (x : Nat) : colRrow s c x 0 = c := by simp [colRrow]
theorem colRrow_succ (s c : List UInt64) (x k : Nat) : colRrow s c x (k + 1) = colRstep s x (colRrow s c x k) k := by simp [colRrow, List.range_succ]
theorem colRrow_len (s c : List UInt64) (x k : Nat) : (colRrow s c x k).length = c.length := by
  induction k with
  | zero => simp [colRrow]
  | succ k ih => rw [colRrow_succ]; simp [colRstep, ih]
theorem colR_len (s : List UInt64) (k : Nat) : (colR s k).length = 5 := by
  induction k with
  | zero => simp [colR]
  | succ k ih => rw [colR_succ, colRrow_len, ih]
theorem colR_zero (s : List UInt64) : colR s 0 = List.replicate 5 0 := by simp [colR]
theorem movR_succ (s : List UInt64) (t : List Nat) (c : List UInt64) (k : Nat) : movR s t c (k + 1) = movRrow s t (movR s t c k) k (dR c k) 5 := by simp [movR, List.range_succ]
theorem movRrow_zero (s : List UInt64) (t : List Nat) (m : List UInt64) (x : Nat) (d : UInt64) : movRrow s t m x d 0 = m := by simp [movRrow]
theorem movRrow_succ (s : List UInt64) (t : List Nat) (m : List UInt64) (x : Nat) (d : UInt64) (k : Nat) : movRrow s t m x d (k + 1) = movRstep s t x d (movRrow s t m x d k) k := by simp [movRrow, List.range_succ]
theorem movRrow_len (s : List UInt64) (t : List Nat) (m : List UInt64) (x : Nat) (d : UInt64) (k : Nat) : (movRrow s t m x d k).length = m.length := by
  induction k with
  | zero => simp [movRrow]
  | succ k ih => rw [movRrow_succ]; simp [movRstep, ih]
theorem movR_len (s : List UInt64) (t : List Nat) (c : List UInt64) (k : Nat) : (movR s t c k).length = 25 := by
  induction k with
  | zero => simp [movR]
  | succ k ih => rw [movR_succ, movRrow_len, ih]
theorem chiR_succ (m : List UInt64) (k : Nat) : chiR m (k + 1) = chiRrow m (chiR m k) k 5 := by simp [chiR, List.range_succ]
theorem chiRrow_zero (m o : List UInt64) (x : Nat) : chiRrow m o x 0 = o := by simp [chiRrow]
theorem chiRrow_succ (m o : List UInt64) (x k : Nat) : chiRrow m o x (k + 1) = chiRstep m x (chiRrow m o x k) k := by simp [chiRrow, List.range_succ]
theorem chiRrow_len (m o : List UInt64) (x k : Nat) : (chiRrow m o x k).length = o.length := by
  induction k with
  | zero => simp [chiRrow]
  | succ k ih => rw [chiRrow_succ]; simp [chiRstep, ih]
theorem chiR_len (m : List UInt64) (k : Nat) : (chiR m k).length = 25 := by
  induction k with
  | zero => simp [chiR]
  | succ k ih => rw [chiR_succ, chiRrow_len, ih]
theorem place_lt (x y : Nat) : place x y < 25 := by unfold place; omega
theorem info_u64 : (Tryz.prog.info? 30).map (fun i => (i.zero, i.size, i.bytes)) = some (some (.int .u64 0), 1, 8) := by kernel_rfl
theorem place_same (x y : Nat) (w : World) (hx : x ≤ 200) (hy : y ≤ 200) : Calls Tryz.prog 134 #[.int .i64 (x : Int), .int .i64 (y : Int)] w fun e w' => e = .returned (.int .i64 ((place x y : Nat) : Int)) ∧ w' = w :=
  (place_any x y w (by omega) (by omega) (by omega) (by omega)).mono (fun _ _ h => ⟨h.1, h.2.symm⟩)

theorem place_diag (x y : Nat) (w : World) (hx : x ≤ 100) (hy : y ≤ 100) : Calls Tryz.prog 134 #[.int .i64 (y : Int), .int .i64 (2 * (x : Int) + 3 * (y : Int))] w fun e w' => e = .returned (.int .i64 ((place y (2 * x + 3 * y) : Nat) : Int)) ∧ w' = w := by
  refine (place_any (y : Int) (2 * (x : Int) + 3 * (y : Int)) w (by omega) (by omega) (by omega) (by omega)).mono (fun e w' h => ⟨h.1.trans ?_, h.2.symm⟩)
  have e1 : (2 * (x : Int) + 3 * (y : Int)).toNat = 2 * x + 3 * y := by omega
  rw [e1, Int.toNat_natCast]
theorem place_1 (x y : Nat) (w : World) (hx : x ≤ 100) (hy : y ≤ 100) : Calls Tryz.prog 134 #[.int .i64 ((x : Int) + 1), .int .i64 (y : Int)] w fun e w' => e = .returned (.int .i64 ((place (x + 1) y : Nat) : Int)) ∧ w' = w := place_same (x + 1) y w (by omega) (by omega)
theorem place_2 (x y : Nat) (w : World) (hx : x ≤ 100) (hy : y ≤ 100) : Calls Tryz.prog 134 #[.int .i64 ((x : Int) + 2), .int .i64 (y : Int)] w fun e w' => e = .returned (.int .i64 ((place (x + 2) y : Nat) : Int)) ∧ w' = w := place_same (x + 2) y w (by omega) (by omega)
theorem left1_any (x : UInt64) (w : World) : Calls Tryz.prog 135 #[.int .u64 (x.toNat : Int), .int .i64 1] w fun e w' => e = .returned (.int .u64 ((rotl x 1).toNat : Int)) ∧ ∃ n, w' = w.drewN n := left_any x 1 (by omega) w

set_option maxHeartbeats 4000000 in
set_option maxRecDepth 1000000 in
/-- the first loops: the columns -/
theorem round_any (aa ta : Option Addr) (na ca ct : Nat) (S : List UInt64) (c : UInt64) (w : World) (hna : na = 25) (ha : Rd w aa na (ws S)) (ht : Rd w ta 25 (is (turnsK 24))) :
    Calls Tryz.prog 128 #[.slice aa na ca, .slice ta 25 ct, .int .u64 (c.toNat : Int)] w fun e w' => ∃ g, e = .returned (.slice (some ⟨g, 0, none⟩) 25 25) ∧ w.heap.size ≤ g ∧ Has w' g (ws (roundR (turnsK 24) S c)) 30 ∧ Fr Nob w w' := by
  subst hna
  have hS : S.length = 25 := by have := ha.len; rwa [length_ws] at this
  go_enter Tryz.func128, Tryz.ntmps128
  go_wp2_with (at_make; refine wl_make rfl rfl Tryz.underlying147 info_u64 rfl rfl rfl 5 5 (by simp) (by simp) (by omega) (by omega) (by unfold maxLen; omega) ?_; intro w1 hw1 hf1 hz1)
  have hc1 : Has w1 w.heap.size (ws (colR S 0)) 30 := by rw [colR_zero]; exact hw1
  generalize hgc : w.heap.size = gc at *
  clear hw1
  go_loopw [8] (fun i wr => ∃ x : Nat, x ≤ 5 ∧ i = .int .i64 x ∧ Has wr gc (ws (colR S x)) 30 ∧ Fr Nob w wr) (fun i _ => (5 - intOf i).toNat)
  case atStart => exact ⟨0, by omega, rfl, hc1, hf1⟩
  case round =>
    obtain ⟨x, hx, rfl, hcx, hfx⟩ := hrel
    clear hc1 hf1
    by_cases hlt : x < 5
    · have hltI : (x : Int) < 5 := by omega
      obtain ⟨wo, rfl⟩ : ∃ wo : World, wo = wr := ⟨_, rfl⟩
      go_wp2_with fail
      go_loopw [9] (fun i wr => ∃ y : Nat, y ≤ 5 ∧ i = .int .i64 y ∧ Has wr gc (ws (colRrow S (colR S x) x y)) 30 ∧ Fr Nob w wr) (fun i _ => (5 - intOf i).toNat)
      case atStart => exact ⟨0, by omega, rfl, by rw [colRrow_zero]; exact hcx, hfx⟩
      case round =>
        obtain ⟨y, hy, rfl, hcy, hfy⟩ := hrel
        clear hcx hfx
        by_cases hlt2 : y < 5
        · have hlt2I : (y : Int) < 5 := by omega
          obtain ⟨b, o, rfl, hat⟩ := (ha.still hfy).at (by omega)
          have hs : wr.cell? ⟨b, o + place x y, none⟩ = some (.int .u64 ((S.getD (place x y) 0).toNat : Int)) := hat _ _ (ws_get _ _ (by rw [hS]; exact place_lt x y))
          have hsl : (colRrow S (colR S x) x y).length = 5 := by rw [colRrow_len, colR_len]
          have hc : wr.cell? ⟨gc, x, none⟩ = some (.int .u64 (((colRrow S (colR S x) x y).getD x 0).toNat : Int)) := hcy.cell (ws_get _ _ (by rw [hsl]; exact hlt))
          have hf : wr.frozen? ⟨gc, x, none⟩ = false := hcy.free _ (by rw [length_ws, hsl]; exact hlt)
          have hpl : (0 : Int) ≤ (place x y : Int) ∧ (place x y : Int) < 25 := by have := place_lt x y; omega
          generalize hu : S.getD (place x y) 0 = u at hs
          generalize hv : (colRrow S (colR S x) x y).getD x 0 = v at hc
          have HU := Lib.hid hu; clear hu
          have HV := Lib.hid hv; clear hv
          have HSL := Lib.hid hsl; clear hsl
          have HS := Lib.hid hS; clear hS
          clear hat
          have HGC := Lib.hid hgc; clear hgc
          go_wp2_with fail
          refine wp_region_still_tail 14 (by kernel_rfl) (by kernel_rfl) ?_
          simp only [List.take_succ_cons, List.take_zero, List.drop_succ_cons, List.drop_zero]
          repeat still_step
          still_call (place_same x y _ (by omega) (by omega))
          repeat still_step
          refine wpStill_nil ?_
          go_wp2
          go_roundw
          case rel =>
            have e : colRrow S (colR S x) x (y + 1) = (colRrow S (colR S x) x y).set x (wx v u) := by rw [colRrow_succ, colRstep, HU.out, HV.out]; rfl
            refine ⟨y + 1, by omega, by go_num, ?_, (hfy.setCell _ _ _ _ (fun h => by have := HGC.out; omega)).drew⟩
            rw [e, ← ws_set]
            exact (hcy.set _ _).drew
          case measure => simp [intOf]; omega
        · have hge : ¬ ((y : Int) < 5) := by omega
          have hy5 : y = 5 := by omega
          have HY := Lib.hid hy5; clear hy5
          go_wp2_with fail
          go_roundw
          case rel =>
            rw [HY.out, ← colR_succ] at hcy
            first
              | exact ⟨x + 1, by omega, by go_num, hcy, hfy⟩
              | exact ⟨x + 1, by omega, by omega, hcy⟩
          case measure => simp [intOf]; omega
    · have hge : ¬ ((x : Int) < 5) := by omega
      have hx5 : x = 5 := by omega
      have hcl : (colR S x).length = 5 := colR_len S x
      have hcol : colR S x = colR S 5 := by rw [hx5]
      generalize colR S x = col at *
      have HCOL := Lib.hid hcol; clear hcol hx5
      go_wp2_with (at_make; refine wl_make rfl rfl Tryz.underlying147 info_u64 rfl rfl rfl 25 25 (by simp) (by simp) (by omega) (by omega) (by unfold maxLen; omega) ?_; intro w2 hw2 hf2 hz2)
      have hm2 : Has w2 wr.heap.size (ws (movR S (turnsK 24) col 0)) 30 := by simpa [movR, ws] using hw2
      have hgm : gc < wr.heap.size := hcx.lt
      have hc2 := hcx.keep hf2 id
      have hfr2 := hfx.same hf2
      have hwm : gc ≤ wr.heap.size := by have := hfx.size; omega
      generalize wr.heap.size = gm at *
      clear hw2 hf2 hz2 hcx hfx
      go_wp2_with fail
      go_loopw [11] (fun i wr => ∃ x : Nat, x ≤ 5 ∧ i = .int .i64 x ∧ Has wr gc (ws col) 30 ∧ Has wr gm (ws (movR S (turnsK 24) col x)) 30 ∧ Fr Nob w wr) (fun i _ => (5 - intOf i).toNat)
      case atStart => exact ⟨0, by omega, rfl, hc2, hm2, hfr2⟩
      case round =>
        obtain ⟨x, hx, rfl, hcx, hmx, hfx⟩ := hrel
        clear hc2 hm2 hfr2
        by_cases hlt3 : x < 5
        · have hlt3I : (x : Int) < 5 := by omega
          obtain ⟨wo, rfl⟩ : ∃ wo : World, wo = wr := ⟨_, rfl⟩
          have hc4 : wo.cell? ⟨gc, (x + 4) % 5, none⟩ = some (.int .u64 ((col.getD ((x + 4) % 5) 0).toNat : Int)) := hcx.cell (ws_get _ _ (by omega))
          have hc1 : wo.cell? ⟨gc, (x + 1) % 5, none⟩ = some (.int .u64 ((col.getD ((x + 1) % 5) 0).toNat : Int)) := hcx.cell (ws_get _ _ (by omega))
          generalize hu : col.getD ((x + 4) % 5) 0 = u at hc4
          generalize hv : col.getD ((x + 1) % 5) 0 = v at hc1
          have HU := Lib.hid hu; clear hu
          have HV := Lib.hid hv; clear hv
          have HCL := Lib.hid hcl; clear hcl
          have HS := Lib.hid hS; clear hS
          have HGC := Lib.hid hgc; clear hgc
          have hlo : (0 : Int) ≤ ((x : Int) + 4) % 5 ∧ ((x : Int) + 4) % 5 < 5 ∧ (0 : Int) ≤ ((x : Int) + 1) % 5 ∧ ((x : Int) + 1) % 5 < 5 := by omega
          go_wp2_with fail
          have e1 : IntKind.i64.wrap ((x : Int) + 4) = (x : Int) + 4 := IntWalk.i64_in _ (by omega)
          have e2 : ((x : Int) + 4).tmod 5 = ((x : Int) + 4) % 5 := Int.tmod_eq_emod_of_nonneg (by omega)
          have e3 : (((x : Int) + 4) % 5).toNat = (x + 4) % 5 := by omega
          have e4 : IntKind.i64.wrap ((x : Int) + 1) = (x : Int) + 1 := IntWalk.i64_in _ (by omega)
          have e5 : ((x : Int) + 1).tmod 5 = ((x : Int) + 1) % 5 := Int.tmod_eq_emod_of_nonneg (by omega)
          have e6 : (((x : Int) + 1) % 5).toNat = (x + 1) % 5 := by omega
          go_quiet ((go_at_call 135; exact Calls.quiet_of (left1_any _ _)))
          clear e1 e2 e3 e4 e5 e6
          go_wp2_with fail
          have hcz := hcx.drewN nq
          have hmz := hmx.drewN nq
          have hfz := hfx.drewN nq
          generalize wo.drewN nq = wz at *
          clear hcx hmx hfx hc4 hc1 wo
          have hmb := hmz.lt
          have hd : wx u (rotl v 1) = dR col x := by rw [dR, HU.out, HV.out]; rfl
          generalize wx u (rotl v 1) = d at *
          have HD := Lib.hid hd; clear hd
          go_loopw [13] (fun i wr => ∃ y : Nat, y ≤ 5 ∧ i = .int .i64 y ∧ Has wr gc (ws col) 30 ∧ Has wr gm (ws (movRrow S (turnsK 24) (movR S (turnsK 24) col x) x d y)) 30 ∧ Fr Nob w wr) (fun i _ => (5 - intOf i).toNat)
          case atStart => exact ⟨0, by omega, rfl, hcz, by rw [movRrow_zero]; exact hmz, hfz⟩
          case round =>
            obtain ⟨y, hy, rfl, hcy, hmy, hfy⟩ := hrel
            clear hcz hmz hfz
            by_cases hlt4 : y < 5
            · have hlt4I : (y : Int) < 5 := by omega
              obtain ⟨b, o, rfl, hat⟩ := (ha.still hfy).at (by omega)
              obtain ⟨tb, to, rfl, tat⟩ := (ht.still hfy).at (by omega)
              have hnb : b ≠ gm := by have := ha.lt (by omega); have := HGC.out; omega
              have hnt : tb ≠ gm := by have := ht.lt (by omega); have := HGC.out; omega
              have hs : wr.cell? ⟨b, o + place x y, none⟩ = some (.int .u64 ((S.getD (place x y) 0).toNat : Int)) := hat _ _ (ws_get _ _ (by rw [HS.out]; exact place_lt x y))
              have htu : wr.cell? ⟨tb, to + place x y, none⟩ = some (.int .i64 (((turnsK 24).getD (place x y) 0 : Nat) : Int)) := tat _ _ (is_get _ _ (by rw [turnsK_len]; exact place_lt x y))
              have htl : (turnsK 24).getD (place x y) 0 < 64 := turns_lt _
              have hpl := place_lt x y
              have hpl2 := place_lt y (2 * x + 3 * y)
              obtain ⟨v0, hc0, hf0⟩ := hmy.ready (i := place y (2 * x + 3 * y)) (by rw [length_ws, movRrow_len, movR_len]; exact hpl2)
              have hpi : (0 : Int) ≤ (place x y : Int) ∧ (place x y : Int) < 25 ∧ (0 : Int) ≤ (place y (2 * x + 3 * y) : Int) ∧ (place y (2 * x + 3 * y) : Int) < 25 := by omega
              generalize hsv : S.getD (place x y) 0 = sv at hs
              generalize htv : (turnsK 24).getD (place x y) 0 = tv at htu htl
              have HSV := Lib.hid hsv; clear hsv
              have HTV := Lib.hid htv; clear htv
              clear hat tat hpl hpl2
              go_wp2_with fail
              have e1 : IntKind.i64.wrap (2 * (x : Int)) = 2 * (x : Int) := IntWalk.i64_in _ (by omega)
              have e2 : IntKind.i64.wrap (3 * (y : Int)) = 3 * (y : Int) := IntWalk.i64_in _ (by omega)
              have e3 : IntKind.i64.wrap (2 * (x : Int) + 3 * (y : Int)) = 2 * (x : Int) + 3 * (y : Int) := IntWalk.i64_in _ (by omega)
              go_region_held3 (fun w' => w'.cell? ⟨b, o + place x y, none⟩ = some (.int .u64 (sv.toNat : Int)) ∧ w'.cell? ⟨tb, to + place x y, none⟩ = some (.int .i64 (tv : Int))) (first | go_keep | (refine ⟨?_, ?_⟩ <;> (rw [cell_other _ _ _ _ _ _ (by assumption)]; assumption)))
                (first | (go_at_call_of 134 (Value.int .i64 (x : Int)); refine (place_same x y _ (by omega) (by omega)).mono ?_; rintro e w' ⟨rfl, rfl⟩) | (go_at_call 135; refine (left_any _ _ htl _).mono ?_; rintro e w' ⟨rfl, nl, rfl⟩) | (go_at_call 134; refine (place_diag x y _ (by omega) (by omega)).mono ?_; rintro e w' ⟨rfl, rfl⟩))
              all_goals go_wp2
              go_roundw
              case rel =>
                have e : movRrow S (turnsK 24) (movR S (turnsK 24) col x) x d (y + 1) = (movRrow S (turnsK 24) (movR S (turnsK 24) col x) x d y).set (place y (2 * x + 3 * y)) (rotl (wx sv d) tv) := by
                  rw [movRrow_succ, movRstep, HSV.out, HTV.out]; rfl
                refine ⟨y + 1, by omega, by go_num, (hcy.drewN _).other _ _ _ (by omega), ?_, (hfy.drewN _).setCell _ _ _ _ (fun h => by have := HGC.out; omega)⟩
                rw [e, ← ws_set]
                exact (hmy.drewN _).set _ _
              case measure => simp [intOf]; omega
            · have hge : ¬ ((y : Int) < 5) := by omega
              have hy5 : y = 5 := by omega
              have HY := Lib.hid hy5; clear hy5
              go_wp2_with fail
              go_roundw
              case rel =>
                rw [HY.out, HD.out, ← movR_succ] at hmy
                first
                  | exact ⟨x + 1, by omega, by go_num, hcy, hmy, hfy⟩
                  | exact ⟨x + 1, by omega, by omega, hmy⟩
              case measure => simp [intOf]; omega
        · have hge : ¬ ((x : Int) < 5) := by omega
          have hx5 : x = 5 := by omega
          have hml : (movR S (turnsK 24) col x).length = 25 := movR_len _ _ _ _
          have hmv : movR S (turnsK 24) col x = movR S (turnsK 24) (colR S 5) 5 := by rw [hx5, HCOL.out]
          generalize movR S (turnsK 24) col x = mv at *
          have HMV := Lib.hid hmv; clear hmv hx5
          have HGC := Lib.hid hgc; clear hgc
          have HS := Lib.hid hS; clear hS
          have HCL := Lib.hid hcl; clear hcl
          have hgb : gc ≤ wr.heap.size := by have := hfx.size; have := HGC.out; omega
          go_wp2_with (at_make; refine wl_make rfl rfl Tryz.underlying147 info_u64 rfl rfl rfl 25 25 (by simp) (by simp) (by omega) (by omega) (by unfold maxLen; omega) ?_; intro w3 hw3 hf3 hz3)
          have ho3 : Has w3 wr.heap.size (ws (chiR mv 0)) 30 := by simpa [chiR, ws] using hw3
          have hgo : gm < wr.heap.size := hmx.lt
          have hm3 := hmx.keep hf3 id
          have hfr3 := hfx.same hf3
          generalize wr.heap.size = go at *
          clear hw3 hf3 hz3 hcx hmx hfx
          go_wp2_with fail
          go_loopw [15] (fun i wr => ∃ x : Nat, x ≤ 5 ∧ i = .int .i64 x ∧ Has wr gm (ws mv) 30 ∧ Has wr go (ws (chiR mv x)) 30 ∧ Fr Nob w wr) (fun i _ => (5 - intOf i).toNat)
          case atStart => exact ⟨0, by omega, rfl, hm3, ho3, hfr3⟩
          case round =>
            obtain ⟨x, hx, rfl, hmx, hox, hfx⟩ := hrel
            clear hm3 ho3 hfr3
            by_cases hlt5 : x < 5
            · have hlt5I : (x : Int) < 5 := by omega
              obtain ⟨wo, rfl⟩ : ∃ wo : World, wo = wr := ⟨_, rfl⟩
              go_wp2_with fail
              go_loopw [16] (fun i wr => ∃ y : Nat, y ≤ 5 ∧ i = .int .i64 y ∧ Has wr gm (ws mv) 30 ∧ Has wr go (ws (chiRrow mv (chiR mv x) x y)) 30 ∧ Fr Nob w wr) (fun i _ => (5 - intOf i).toNat)
              case atStart => exact ⟨0, by omega, rfl, hmx, by rw [chiRrow_zero]; exact hox, hfx⟩
              case round =>
                obtain ⟨y, hy, rfl, hmy, hoy, hfy⟩ := hrel
                clear hmx hox hfx
                by_cases hlt6 : y < 5
                · have hlt6I : (y : Int) < 5 := by omega
                  have hp0 := place_lt x y
                  have hp1 := place_lt (x + 1) y
                  have hp2 := place_lt (x + 2) y
                  have h0 : wr.cell? ⟨gm, place x y, none⟩ = some (.int .u64 ((mv.getD (place x y) 0).toNat : Int)) := hmy.cell (ws_get _ _ (by omega))
                  have h1 : wr.cell? ⟨gm, place (x + 1) y, none⟩ = some (.int .u64 ((mv.getD (place (x + 1) y) 0).toNat : Int)) := hmy.cell (ws_get _ _ (by omega))
                  have h2 : wr.cell? ⟨gm, place (x + 2) y, none⟩ = some (.int .u64 ((mv.getD (place (x + 2) y) 0).toNat : Int)) := hmy.cell (ws_get _ _ (by omega))
                  obtain ⟨v0, hc0, hf0⟩ := hoy.ready (i := place x y) (by rw [length_ws, chiRrow_len, chiR_len]; exact hp0)
                  have hpi : (0 : Int) ≤ (place x y : Int) ∧ (place x y : Int) < 25 ∧ (0 : Int) ≤ (place (x + 1) y : Int) ∧ (place (x + 1) y : Int) < 25 ∧ (0 : Int) ≤ (place (x + 2) y : Int) ∧ (place (x + 2) y : Int) < 25 := by omega
                  generalize hv0 : mv.getD (place x y) 0 = y0 at h0
                  generalize hv1 : mv.getD (place (x + 1) y) 0 = y1 at h1
                  generalize hv2 : mv.getD (place (x + 2) y) 0 = y2 at h2
                  have HV0 := Lib.hid hv0; clear hv0
                  have HV1 := Lib.hid hv1; clear hv1
                  have HV2 := Lib.hid hv2; clear hv2
                  have HML := Lib.hid hml; clear hml hp0 hp1 hp2
                  go_wp2_with fail
                  have e1 : IntKind.i64.wrap ((x : Int) + 1) = (x : Int) + 1 := IntWalk.i64_in _ (by omega)
                  have e2 : IntKind.i64.wrap ((x : Int) + 2) = (x : Int) + 2 := IntWalk.i64_in _ (by omega)
                  refine wp_region_still_tail 28 (by kernel_rfl) (by kernel_rfl) ?_
                  simp only [List.take_succ_cons, List.take_zero, List.drop_succ_cons, List.drop_zero]
                  repeat still_step
                  still_call (place_same x y _ (by omega) (by omega))
                  repeat still_step
                  still_call (place_same x y _ (by omega) (by omega))
                  repeat still_step
                  still_call (place_1 x y _ (by omega) (by omega))
                  repeat still_step
                  still_call (place_2 x y _ (by omega) (by omega))
                  repeat still_step
                  refine wpStill_nil ?_
                  go_wp2
                  go_roundw
                  case rel =>
                    have e : chiRrow mv (chiR mv x) x (y + 1) = (chiRrow mv (chiR mv x) x y).set (place x y) (wx y0 (wa (wn y1) y2)) := by
                      rw [chiRrow_succ, chiRstep, HV0.out, HV1.out, HV2.out]; rfl
                    refine ⟨y + 1, by omega, by go_num, (hmy.other _ _ _ (by omega)).drew, ?_, (hfy.setCell _ _ _ _ (fun h => by have := HGC.out; omega)).drew⟩
                    rw [e, ← ws_set]
                    exact (hoy.set _ _).drew
                  case measure => simp [intOf]; omega
                · have hge : ¬ ((y : Int) < 5) := by omega
                  have hy5 : y = 5 := by omega
                  have HY := Lib.hid hy5; clear hy5
                  go_wp2_with fail
                  go_roundw
                  case rel =>
                    rw [HY.out, ← chiR_succ] at hoy
                    first
                      | exact ⟨x + 1, by omega, by go_num, hmy, hoy, hfy⟩
                      | exact ⟨x + 1, by omega, by omega, hoy⟩
                  case measure => simp [intOf]; omega
            · have hge : ¬ ((x : Int) < 5) := by omega
              have hx5 : x = 5 := by omega
              have hol : (chiR mv x).length = 25 := chiR_len mv x
              have hcell : wr.cell? ⟨go, 0, none⟩ = some (.int .u64 (((chiR mv x).getD 0 0).toNat : Int)) := hox.cell (ws_get _ _ (by omega))
              have hfree : wr.frozen? ⟨go, 0, none⟩ = false := hox.free _ (by rw [length_ws]; omega)
              generalize hu : (chiR mv x).getD 0 0 = u at hcell
              have HU := Lib.hid hu; clear hu
              have HX5 := Lib.hid hx5; clear hx5
              have HOL := Lib.hid hol; clear hol
              have HML := Lib.hid hml; clear hml
              go_wp2_with fail
              try go_region
              all_goals go_wp2
              go_ret
              have e : roundR (turnsK 24) S c = (chiR mv x).set 0 (wx u c) := by
                rw [roundR, ← HMV.out, ← HX5.out, HU.out]; rfl
              refine ⟨go, rfl, by have := HGC.out; omega, ?_, hfx.setCell _ _ _ _ (fun h => by have := HGC.out; omega)⟩
              rw [e, ← ws_set]
              exact hox.set _ _
end Go.Proofs.YtdbgddngapminaaGreat

/- Pure sponge: the permutation of bytes, both ways. -/
namespace Mvp

def zeros25 : List UInt64 := List.replicate 25 0
def permS (S : List UInt64) : List UInt64 := permP (turnsK 24) (fun r => rcP r 8) S 24
def permB (l : List UInt8) : List UInt8 := toB (permS (xorB zeros25 l 200)) 200
theorem permS_len (S : List UInt64) : (permS S).length = S.length := permP_len _ _ _ _
theorem permR_eq (S : List UInt64) (h : S.length = 25) : permR (turnsK 24) (fun r => rcR r 7) S 24 = permS S :=
  (perm_same (turnsK 24) (fun r => rcP r 8) (fun r => rcR r 7) S h 24 (fun r hr => rc_same r hr)).symm

/- the reference's way: by or -/
def orStep (s : List UInt64) (i : Nat) (x : UInt8) : List UInt64 := s.set (i / 8) (wo (s.getD (i / 8) 0) (shl (wid x) (8 * (i % 8))))
def orB (s : List UInt64) (b : List UInt8) (k : Nat) : List UInt64 := (List.range k).foldl (fun s i => orStep s i (b.getD i 0)) s
theorem orB_succ (s : List UInt64) (b : List UInt8) (k : Nat) : orB s b (k + 1) = orStep (orB s b k) k (b.getD k 0) := by simp [orB, List.range_succ]
theorem orB_len (s : List UInt64) (b : List UInt8) (k : Nat) : (orB s b k).length = s.length := by
  induction k with
  | zero => simp [orB]
  | succ k ih => rw [orB_succ]; simp [orStep, ih]

theorem or_xor (x y k : Nat) (h : x < 2 ^ k) : x ||| (y * 2 ^ k) = x ^^^ (y * 2 ^ k) := by
  apply Nat.eq_of_testBit_eq
  intro i
  rw [Nat.testBit_or, Nat.testBit_xor]
  rcases Nat.lt_or_ge i k with hi | hi
  · have : (y * 2 ^ k).testBit i = false := by rw [Nat.testBit_mul_two_pow]; simp; omega
    simp [this]
  · have : x.testBit i = false := Nat.testBit_lt_two_pow (Nat.lt_of_lt_of_le h (Nat.pow_le_pow_right (by omega) hi))
    simp [this]
theorem shl_wid (x : UInt8) (k : Nat) (hk : k ≤ 56) : (shl (wid x) k).toNat = x.toNat * 2 ^ k := by
  have hx := x.toNat_lt
  have h1 : x.toNat * 2 ^ k < 2 ^ 8 * 2 ^ 56 := by
    have h2 : 2 ^ k ≤ 2 ^ 56 := Nat.pow_le_pow_right (by omega) hk
    have h3 : 0 < 2 ^ k := Nat.two_pow_pos k
    calc x.toNat * 2 ^ k < 2 ^ 8 * 2 ^ k := Nat.mul_lt_mul_of_pos_right hx h3
      _ ≤ 2 ^ 8 * 2 ^ 56 := Nat.mul_le_mul_left _ h2
  simp only [shl, wid, UInt64.toNat_ofNat', UInt8.toNat_toUInt64]
  exact Nat.mod_eq_of_lt (by simpa using h1)
theorem wo_wx (a : UInt64) (x : UInt8) (k : Nat) (hk : k ≤ 56) (h : a.toNat < 2 ^ k) : wo a (shl (wid x) k) = wx a (shl (wid x) k) := by
  apply UInt64.toNat_inj.1
  simp only [wo, wx, UInt64.toNat_or, UInt64.toNat_xor]
  rw [shl_wid x k hk, or_xor _ _ _ h]
theorem wx_lt (a : UInt64) (x : UInt8) (k : Nat) (hk : k ≤ 56) (h : a.toNat < 2 ^ k) : (wx a (shl (wid x) k)).toNat < 2 ^ (k + 8) := by
  simp only [wx, UInt64.toNat_xor]
  rw [shl_wid x k hk]
  have hx := x.toNat_lt
  refine Nat.xor_lt_two_pow (Nat.lt_of_lt_of_le h (Nat.pow_le_pow_right (by omega) (by omega))) ?_
  rw [Nat.pow_add, Nat.mul_comm (2 ^ k)]
  exact Nat.mul_lt_mul_of_pos_right hx (Nat.two_pow_pos k)

theorem getD_set (s : List UInt64) (i j : Nat) (v : UInt64) (hi : i < s.length) : (s.set i v).getD j 0 = if i = j then v else s.getD j 0 := by
  have _h := hi
  simp only [List.getD_eq_getElem?_getD, List.getElem?_set]
  split
  · rename_i h; subst h; simp
  · rfl
theorem or_same (b : List UInt8) (k : Nat) (hk : k ≤ 200) : orB zeros25 b k = xorB zeros25 b k ∧ (∀ j, j < 25 → ((xorB zeros25 b k).getD j 0).toNat < 2 ^ (8 * min (k - 8 * j) 8)) := by
  induction k with
  | zero =>
    refine ⟨by simp [orB, xorB], fun j hj => ?_⟩
    have hz : ∀ j, j < 25 → zeros25.getD j 0 = 0 := by decide
    have e : xorB zeros25 b 0 = zeros25 := by simp [xorB]
    rw [e, hz j hj]
    simp
  | succ k ih =>
    obtain ⟨h1, h2⟩ := ih (by omega)
    have hl : (xorB zeros25 b k).length = 25 := by rw [xorB_len]; simp [zeros25]
    have hk8 : k / 8 < 25 := by omega
    have h3 := h2 (k / 8) hk8
    have e3 : min (k - 8 * (k / 8)) 8 = k % 8 := by omega
    rw [e3] at h3
    refine ⟨?_, fun j hj => ?_⟩
    · rw [orB_succ, xorB_succ, h1, orStep, xorStep, wo_wx _ _ _ (by omega) h3]
    · rw [xorB_succ, xorStep, getD_set _ _ _ _ (by omega)]
      split
      · rename_i e
        subst e
        have := wx_lt ((xorB zeros25 b k).getD (k / 8) 0) (b.getD k 0) (8 * (k % 8)) (by omega) h3
        have e4 : 8 * min (k + 1 - 8 * (k / 8)) 8 = 8 * (k % 8) + 8 := by omega
        rw [e4]; exact this
      · rename_i e
        have e5 : min (k + 1 - 8 * j) 8 = min (k - 8 * j) 8 := by omega
        rw [e5]; exact h2 j hj
end Mvp

/- Permute, the program's and the reference's -/
namespace Go.Proofs.YtdbgddngapminaaGreat
open Go.RowKit Go.Mv Mvp

end Go.Proofs.YtdbgddngapminaaGreat

/- Permute of the reference -/
namespace Go.Proofs.YtdbgddngapminaaGreat
open Go.RowKit Go.Mv Mvp

theorem roundR_len (t : List Nat) (s : List UInt64) (c : UInt64) : (roundR t s c).length = 25 := by simp [roundR, chiR_len]
theorem permR_len (t : List Nat) (rc : Nat → UInt64) (s : List UInt64) (k : Nat) (h : s.length = 25) : (permR t rc s k).length = 25 := by
  cases k with
  | zero => simpa [permR] using h
  | succ k => rw [permR_succ, roundR_len]

set_option maxHeartbeats 2000000 in
set_option maxRecDepth 1000000 in
theorem permuteR_any (s : ByteArray) (w : World) (hs : s.size = 200) :
    Calls Tryz.prog 120 #[.string s] w fun e w' => e = .returned (.string (mkS (permB s.data.toList))) ∧ Fr Nob w w' := by
  have hsb : s.size ≤ 200 := by omega
  have HSZ := Lib.hid hs; clear hs
  go_enter Tryz.func120, Tryz.ntmps120
  go_wp2_with (at_make; refine wl_make rfl rfl Tryz.underlying147 info_u64 rfl rfl rfl 25 25 (by simp) (by simp) (by omega) (by omega) (by unfold maxLen; omega) ?_; intro w1 hw1 hf1 hz1)
  have ha1 : Has w1 w.heap.size (ws (orB zeros25 s.data.toList 0)) 30 := by simpa [orB, zeros25, ws] using hw1
  generalize hga : w.heap.size = ga at *
  clear hw1
  have HGA := Lib.hid hga; clear hga
  go_loopw [4] (fun i wr => ∃ k : Nat, k ≤ 200 ∧ i = .int .i64 k ∧ Has wr ga (ws (orB zeros25 s.data.toList k)) 30 ∧ Fr Nob w wr) (fun i _ => (200 - intOf i).toNat)
  case atStart => exact ⟨0, by omega, rfl, ha1, hf1⟩
  case round =>
    obtain ⟨k, hk, rfl, hak, hf⟩ := hrel
    clear ha1 hf1 hz1
    by_cases hlt : k < 200
    · have hltI : (k : Int) < 200 := by omega
      have hol : (orB zeros25 s.data.toList k).length = 25 := by rw [orB_len]; simp [zeros25]
      have hx : ∀ h1 : k < s.size, s[k]'h1 = s.data.toList.getD k 0 := by
        intro h1
        rw [List.getD_eq_getElem?_getD, List.getElem?_eq_getElem (by simpa using h1)]
        simp
        rfl
      have hc : wr.cell? ⟨ga, k / 8, none⟩ = some (.int .u64 (((orB zeros25 s.data.toList k).getD (k / 8) 0).toNat : Int)) := hak.cell (ws_get _ _ (by omega))
      have hfz : wr.frozen? ⟨ga, k / 8, none⟩ = false := hak.free _ (by rw [length_ws]; omega)
      have hlo : (0 : Int) ≤ (k : Int) / 8 ∧ (k : Int) / 8 < 25 := by omega
      generalize hy : (orB zeros25 s.data.toList k).getD (k / 8) 0 = y at hc
      generalize hxx : s.data.toList.getD k 0 = x at hx
      have HY := Lib.hid hy; clear hy
      have HX := Lib.hid hxx; clear hxx
      have HOL := Lib.hid hol; clear hol
      go_wp2_with fail
      have e1 : IntKind.i64.wrap ((k : Int) / 8) = (k : Int) / 8 := IntWalk.i64_in _ (by omega)
      have hks : (k : Int) < (s.size : Int) := by have := HSZ.out; omega
      have e2 : (k : Int).tmod 8 = (k : Int) % 8 := Int.tmod_eq_emod_of_nonneg (by omega)
      have e3 : IntKind.i64.wrap (8 * ((k : Int) % 8)) = 8 * ((k : Int) % 8) := IntWalk.i64_in _ (by omega)
      have e4 : ((k : Int) / 8).toNat = k / 8 := by omega
      refine wp_region_still_tail 18 (by kernel_rfl) (by kernel_rfl) ?_
      simp only [List.take_succ_cons, List.take_zero, List.drop_succ_cons, List.drop_zero]
      repeat still_step
      refine wpStill_nil ?_
      go_wp2
      go_roundw
      case rel =>
        have e : orB zeros25 s.data.toList (k + 1) = (orB zeros25 s.data.toList k).set (k / 8) (wo y (shl (wid x) (8 * (k % 8)))) := by
          rw [orB_succ, orStep, HX.out, HY.out]
        refine ⟨k + 1, by omega, by go_num, ?_, (hf.setCell _ _ _ _ (fun h => by have := HGA.out; omega)).drew⟩
        rw [e, ← ws_set]
        exact (hak.set _ _).drew
      case measure => simp [intOf]; omega
    · have hge : ¬ ((k : Int) < 200) := by omega
      have hk200 : k = 200 := by omega
      have hor : orB zeros25 s.data.toList k = xorB zeros25 s.data.toList 200 := by rw [hk200]; exact (or_same s.data.toList 200 (by omega)).1
      rw [hor] at hak
      have hsl : (xorB zeros25 s.data.toList 200).length = 25 := by rw [xorB_len]; simp [zeros25]
      have hpb : permB s.data.toList = toB (permR (turnsK 24) (fun r => rcR r 7) (xorB zeros25 s.data.toList 200) 24) 200 := by rw [permR_eq _ hsl]; rfl
      generalize xorB zeros25 s.data.toList 200 = S at *
      clear hor hk200
      have HPB := Lib.hid hpb; clear hpb
      have HSL := Lib.hid hsl; clear hsl
      go_wp2_with fail
      refine (offsets_any _).mono ?_
      rintro e w2 ⟨rfl, ht2, hf2⟩
      have ha2 := hak.keep hf2 id
      have hfr2 := hf.then hf2
      generalize wr.heap.size = gt at *
      clear hak hf hf2
      go_wp2_with fail
      go_loopw [3, 6] (fun v i wr => ∃ (r g : Nat), r ≤ 24 ∧ i = .int .i64 r ∧ v = .slice (some ⟨g, 0, none⟩) 25 25 ∧ Has wr g (ws (permR (turnsK 24) (fun r => rcR r 7) S r)) 30 ∧ Has wr gt (is (turnsK 24)) 3 ∧ Fr Nob w wr) (fun _ i _ => (24 - intOf i).toNat)
      case atStart => exact ⟨0, ga, by omega, rfl, rfl, by simpa [permR] using ha2, ht2, hfr2⟩
      case round =>
        obtain ⟨r, g, hr, rfl, rfl, hgr, htr, hfr⟩ := hrel
        clear ha2 ht2 hfr2
        by_cases hlt2 : r < 24
        · have hlt2I : (r : Int) < 24 := by omega
          have hpl : (permR (turnsK 24) (fun r => rcR r 7) S r).length = 25 := permR_len _ _ _ _ HSL.out
          go_wp2_with fail
          refine (constR_any r hlt2 _).mono ?_
          rintro e w' ⟨rfl, rfl⟩
          go_wp2_with fail
          refine (round_any _ _ 25 _ _ (permR (turnsK 24) (fun r => rcR r 7) S r) (rcR r 7) _ rfl (by have := Rd.whole hgr; rwa [length_ws, hpl] at this) (by have := Rd.whole htr; rwa [length_is, turnsK_len] at this)).mono ?_
          rintro e w3 ⟨g3, rfl, hg3, hh3, hf3⟩
          go_wp2_with fail
          go_roundw
          case rel => exact ⟨r + 1, g3, by omega, by go_num, rfl, by rw [permR_succ]; exact hh3, htr.keep hf3 id, hfr.then hf3⟩
          case measure => simp [intOf]; omega
        · have hge2 : ¬ ((r : Int) < 24) := by omega
          have hr24 : r = 24 := by omega
          have hpl : (permR (turnsK 24) (fun r => rcR r 7) S r).length = 25 := permR_len _ _ _ _ HSL.out
          have hpb2 : permB s.data.toList = toB (permR (turnsK 24) (fun r => rcR r 7) S r) 200 := by rw [HPB.out, hr24]
          generalize permR (turnsK 24) (fun r => rcR r 7) S r = R at *
          have HPB2 := Lib.hid hpb2; clear hpb2
          clear hr24 htr
          go_wp2_with (at_make; refine wl_make rfl rfl Tryz.underlying22 info_u8 rfl rfl rfl 200 200 (by simp) (by simp) (by omega) (by omega) (by unfold maxLen; omega) ?_; intro w4 hw4 hf4 hz4)
          have hgo : g < wr.heap.size := hgr.lt
          have hgb : w.heap.size ≤ wr.heap.size := hfr.size
          have ho4 : Has w4 wr.heap.size (bs (fill (toB R 200) (List.replicate 200 0) 0)) 5 := by rw [fill_zero]; simpa [bs] using hw4
          have hg4 := hgr.keep hf4 id
          have hfr4 := hfr.then hf4
          generalize wr.heap.size = go at *
          clear hw4 hf4 hz4 hgr hfr
          go_wp2_with fail
          go_loopw [8] (fun i wr => ∃ k : Nat, k ≤ 200 ∧ i = .int .i64 k ∧ Has wr go (bs (fill (toB R 200) (List.replicate 200 0) k)) 5 ∧ Has wr g (ws R) 30 ∧ Fr Nob w wr) (fun i _ => (200 - intOf i).toNat)
          case atStart => exact ⟨0, by omega, rfl, ho4, hg4, hfr4⟩
          case round =>
            obtain ⟨k, hk, rfl, hh, hg2, hf⟩ := hrel
            clear ho4 hg4 hfr4
            by_cases hlt3 : k < 200
            · have hlt3I : (k : Int) < 200 := by omega
              obtain ⟨v0, hc0, hfr0⟩ := hh.ready (i := k) (by rw [length_bs, fill_length _ _ _ (by simp [toB_len])]; simpa using hlt3)
              have hc : wr.cell? ⟨g, k / 8, none⟩ = some (.int .u64 ((R.getD (k / 8) 0).toNat : Int)) := hg2.cell (ws_get _ _ (by omega))
              have hlo : (0 : Int) ≤ (k : Int) / 8 ∧ (k : Int) / 8 < 25 := by omega
              generalize hy : R.getD (k / 8) 0 = y at hc
              have HY := Lib.hid hy; clear hy
              have HPL := Lib.hid hpl; clear hpl
              go_wp2
              go_roundw
              case rel =>
                have e : (toB R 200).getD k 0 = lo8 (shr y (8 * (k % 8))) := by rw [toB_at R 200 k hlt3, sByte, HY.out]
                refine ⟨k + 1, by omega, by go_num, ?_, hg2.other _ _ _ (by omega), hf.setCell _ _ _ _ (fun h => absurd h (by omega))⟩
                rw [← e]
                exact hh.fillB (by simp [toB_len]) (by simpa [toB_len] using hlt3)
              case measure => simp [intOf]; omega
            · have hge3 : ¬ ((k : Int) < 200) := by omega
              rw [fill_all _ _ _ (by simp [toB_len]) (by simp [toB_len]; omega)] at hh
              go_wp2_with (with_reducible refine wl_stop (o := ⟨some 61, _, _, _, _, _⟩) ?_)
              refine wl_string rfl rfl Tryz.underlying22 Tryz.underlying5 Tryz.underlying9 rfl (l := toB R 200) (by have := Rd.whole hh; rwa [length_bs, toB_len] at this) ?_
              go_wp2
              go_ret
              exact ⟨by rw [HPB2.out]; rfl, hf⟩
end Go.Proofs.YtdbgddngapminaaGreat

/- Pure sponge: bytes are fed one by one; the sponge and what is hashed with it. -/
namespace Mvp

/-- one more byte: at the end of a piece the state is turned -/
def feed1 (st : List UInt64 × Nat) (x : UInt8) : List UInt64 × Nat :=
  if st.2 + 1 = 136 then (permS (xorStep st.1 st.2 x), 0) else (xorStep st.1 st.2 x, st.2 + 1)
def feed (st : List UInt64 × Nat) (l : List UInt8) : List UInt64 × Nat := l.foldl feed1 st
theorem feed_append (st : List UInt64 × Nat) (l m : List UInt8) : feed st (l ++ m) = feed (feed st l) m := by simp [feed]
theorem feed_nil (st : List UInt64 × Nat) : feed st [] = st := rfl
theorem feed_cons (st : List UInt64 × Nat) (x : UInt8) (l : List UInt8) : feed st (x :: l) = feed (feed1 st x) l := rfl

/-- bytes are added from place k on -/
def xorAt : List UInt64 → Nat → List UInt8 → List UInt64
  | S, _, [] => S
  | S, k, x :: l => xorAt (xorStep S k x) (k + 1) l
theorem xorStep_len (S : List UInt64) (k : Nat) (x : UInt8) : (xorStep S k x).length = S.length := by simp [xorStep]
theorem xorAt_len (l : List UInt8) : ∀ (S : List UInt64) (k : Nat), (xorAt S k l).length = S.length := by
  induction l with
  | nil => intro S k; rfl
  | cons x l ih => intro S k; rw [xorAt, ih, xorStep_len]
theorem feed_short (l : List UInt8) : ∀ (S : List UInt64) (k : Nat), k + l.length < 136 → feed (S, k) l = (xorAt S k l, k + l.length) := by
  induction l with
  | nil => intro S k _; rfl
  | cons x l ih =>
    intro S k h
    simp only [List.length_cons] at h
    rw [feed_cons, feed1, if_neg (by simp; omega), ih _ _ (by simp; omega), xorAt]
    simp; omega
theorem feed_full (l : List UInt8) : ∀ (S : List UInt64) (k : Nat), k + l.length = 136 → k < 136 → feed (S, k) l = (permS (xorAt S k l), 0) := by
  induction l with
  | nil => intro S k h h'; simp at h; omega
  | cons x l ih =>
    intro S k h h'
    simp only [List.length_cons] at h
    by_cases hl : l = []
    · subst hl
      simp at h
      rw [feed_cons, feed1, if_pos (by simp; omega), feed_nil]
      rfl
    · have hp : 0 < l.length := List.length_pos_iff.2 hl
      rw [feed_cons, feed1, if_neg (by simp; omega), ih _ _ (by simp; omega) (by simp; omega), xorAt]
theorem feed_lt (l : List UInt8) : ∀ (st : List UInt64 × Nat), st.2 < 136 → (feed st l).2 < 136 := by
  induction l with
  | nil => intro st h; exact h
  | cons x l ih =>
    intro st h
    rw [feed_cons]
    apply ih
    unfold feed1
    split
    · simp
    · simp; omega
theorem feed_len (l : List UInt8) : ∀ (st : List UInt64 × Nat), (feed st l).1.length = st.1.length := by
  induction l with
  | nil => intro st; rfl
  | cons x l ih =>
    intro st
    rw [feed_cons, ih]
    unfold feed1
    split
    · simp [permS_len, xorStep_len]
    · simp [xorStep_len]

theorem xorStep_zero (S : List UInt64) (k : Nat) : xorStep S k 0 = S := by
  have e : shl (wid 0) (8 * (k % 8)) = 0 := by
    apply UInt64.toNat_inj.1
    simp [shl, wid]
  unfold xorStep
  rw [e]
  have e2 : wx (S.getD (k / 8) 0) 0 = S.getD (k / 8) 0 := by simp [wx]
  rw [e2]
  rcases Nat.lt_or_ge (k / 8) S.length with h | h
  · have e3 : S.getD (k / 8) 0 = S[k / 8] := by simp [List.getD_eq_getElem?_getD, h]
    rw [e3]; simp
  · exact List.set_eq_of_length_le h
/-- the bytes of b are added, the first ones being 0 -/
theorem xorB_eq (S : List UInt64) (b : List UInt8) (n : Nat) : n ≤ b.length → xorB S b n = xorAt S 0 (b.take n) := by
  have key : ∀ (l : List UInt8) (S : List UInt64) (k : Nat) (x : UInt8), xorAt S k (l ++ [x]) = xorStep (xorAt S k l) (k + l.length) x := by
    intro l
    induction l with
    | nil => intro S k x; rfl
    | cons y l ih =>
      intro S k x
      rw [List.cons_append, xorAt, ih, xorAt]
      simp [Nat.add_assoc, Nat.add_comm 1]
  induction n with
  | zero => intro _; simp [xorB, xorAt]
  | succ n ih =>
    intro h
    have hn : n < b.length := by omega
    rw [xorB_succ, ih (by omega), List.take_succ_eq_append_getElem hn, key]
    congr 1
    · simp; omega
    · simp [List.getD_eq_getElem?_getD, hn]
theorem xorAt_zeros (S : List UInt64) (k : Nat) (l : List UInt8) : ∀ j, xorAt S j (List.replicate k 0 ++ l) = xorAt S (j + k) l := by
  induction k with
  | zero => intro j; simp
  | succ k ih =>
    intro j
    rw [List.replicate_succ, List.cons_append, xorAt, xorStep_zero, ih, Nat.add_assoc, Nat.add_comm 1 k]
/-- a piece with its bytes from place k on -/
theorem xorB_piece (S : List UInt64) (k : Nat) (l rest : List UInt8) : xorB S (List.replicate k 0 ++ l ++ rest) (k + l.length) = xorAt S k l := by
  rw [xorB_eq _ _ _ (by simp), List.take_left' (by simp), xorAt_zeros]
  simp

/- the sponge -/
attribute [local irreducible] permS toB
/-- what ends the text: so many bytes are in the last piece -/
def padL (k : Nat) (e : UInt8) : List UInt8 := ((e :: List.replicate (135 - k) 0).set (135 - k) (bx (((e :: List.replicate (135 - k) 0)).getD (135 - k) 0) 0x80))
theorem padL_len (k : Nat) (e : UInt8) (h : k < 136) : (padL k e).length = 136 - k := by simp [padL]; omega
/-- the state behind the text -/
def ended (st : List UInt64 × Nat) (e : UInt8) : List UInt64 := (feed st (padL st.2 e)).1
/-- k pieces of the answer -/
def squeeze (S : List UInt64) : Nat → List UInt8
  | 0 => []
  | k + 1 => toB S 136 ++ squeeze (permS S) k
def permN (S : List UInt64) : Nat → List UInt64
  | 0 => S
  | k + 1 => permN (permS S) k
theorem permN_succ (k : Nat) : ∀ (S : List UInt64), permN S (k + 1) = permS (permN S k) := by
  induction k with
  | zero => intro S; rfl
  | succ k ih => intro S; rw [permN, ih]; rfl
theorem permN_len (k : Nat) : ∀ (S : List UInt64), (permN S k).length = S.length := by
  induction k with
  | zero => intro S; rfl
  | succ k ih => intro S; rw [permN, ih, permS_len]
theorem squeeze_len (k : Nat) : ∀ (S : List UInt64), (squeeze S k).length = 136 * k := by
  induction k with
  | zero => intro S; rfl
  | succ k ih => intro S; rw [squeeze, List.length_append, toB_len, ih]; omega
theorem squeeze_succ (k : Nat) : ∀ (S : List UInt64), squeeze S (k + 1) = squeeze S k ++ toB (permN S k) 136 := by
  induction k with
  | zero => intro S; simp [squeeze, permN]
  | succ k ih => intro S; rw [squeeze, ih (permS S)]; rw [squeeze, permN, List.append_assoc]
/-- enough pieces for n bytes -/
def pieces (n : Nat) : Nat := (n + 135) / 136
def outB (S : List UInt64) (n : Nat) : List UInt8 := (squeeze S (pieces n)).take n
theorem outB_len (S : List UInt64) (n : Nat) : (outB S n).length = n := by
  simp only [outB, List.length_take, squeeze_len, pieces]; omega
/-- n bytes of the sponge -/
def spongeB (l : List UInt8) (e : UInt8) (n : Nat) : List UInt8 := outB (ended (feed (zeros25, 0) l) e) n
theorem spongeB_len (l : List UInt8) (e : UInt8) (n : Nat) : (spongeB l e n).length = n := outB_len _ _
end Mvp
