/- group: bytes; A plan for a region whose operations have guards; group: read; read and bytes of a program's points; group: with, over a closure's contract; the closures of Plus, Minus and Times. -/
import Derived.Test.YtdbgddngapminaaMgGroupHomesProof5
import Derived.Test.YtdbgddngapminaaMgGroupHomesProof2
import Derived.Test.YtdbgddngapminaaMgGroupHomesProof1
namespace Go.Proofs.Ytdbgddngapminaa
open Go.RowKit Go.Mv Mvp Mvq
theorem zeros_bs (n : Nat) : List.replicate n (Value.int .u8 0) = bs (List.replicate n 0) := by simp [bs]
theorem zeros_app : splice (bs (List.replicate 33 0)) 1 (List.replicate 32 (Value.int .u8 0)) = bs (List.replicate 33 0) := by rfl
def bb1 (b : Nat) : List Value := bs ([UInt8.ofNat b] ++ List.replicate 32 0)
def bb2 (b X : Nat) : List Value := bs (UInt8.ofNat b :: be32 X)
theorem bb1_len (b : Nat) : (bb1 b).length = 33 := by unfold bb1; rw [length_bs]; simp
theorem bb2_len (b X : Nat) : (bb2 b X).length = 33 := by unfold bb2; rw [length_bs, List.length_cons, be32_len]
theorem bytes_splice (b X : Nat) : splice (bb1 b) 1 (bs (be32 X)) = bb2 b X := by
  unfold bb1 bb2
  rw [bs_append, splice_end _ _ _ 1 (by simp [bs]) (by rw [length_bs, length_bs, be32_len]; rfl), ← bs_append]; rfl
theorem zeros_set (b : Nat) (hb : b < 256) : (bs (List.replicate 33 0)).set 0 (.int .u8 (b : Int)) = bb1 b := by
  unfold bb1
  have h := bs_set (List.replicate 33 0) 0 (UInt8.ofNat b)
  rw [show ((UInt8.ofNat b).toNat : Int) = (b : Int) by rw [UInt8.toNat_ofNat']; omega] at h
  rw [h]; rfl
theorem or_two (b : Nat) (h : b = 0 ∨ b = 1) : bits .or .u8 2 (b : Int) = ((2 + b : Nat) : Int) := by
  rcases h with rfl | rfl <;> decide
attribute [local irreducible] limbs lw mix cw cSub cAdd cMul beN laid be32 montT mstep elN mdL numB rtN rtV rtOk gXn gYn bb1 bb2
set_option maxHeartbeats 16000000 in
set_option maxRecDepth 1000000 in
theorem bytes_none (m : Md) (gc gp bx by_ : Nat) (w : World) (hok : m.Ok) (hcv : Has w gc (crvL m gp bx by_) 93) (hpm : Has w gp (mdL m) 134) (x y z : Nat) (hb : (z % m.M == 0) = true) :
    Calls Try.prog 61 #[.pointer (some ⟨gc, 0, none⟩), ptV m x y z] w fun e w' => ∃ sv, e = .returned sv ∧ Own w' w.heap.size 5 1 sv 33 (bs (List.replicate 33 0)) ∧ Fr Nob w w' := by
  have HOK := Lib.hid hok
  have HCV := Lib.hid hcv
  have HPM := Lib.hid hpm
  clear hok hcv hpm
  have HB := Lib.hid hb
  clear hb
  unfold ptV ptL
  have st0 := St.start Nob w
  go_enter Try.func61, Try.ntmps61
  go_wp2_with (with_reducible refine wl_stop (o := ⟨some 3, _, _, _, _, _⟩) ?_)
  refine wl_boxS st0 rfl rfl rfl (cw 4 (elN m x) ++ (cw 4 (elN m y) ++ cw 4 (elN m z))) rfl ?_
  intro g3 w1 st1
  clear st0
  go_wp2_with (with_reducible refine wl_stop (o := ⟨some 9, _, _, _, _, _⟩) ?_)
  refine wl_make rfl rfl Try.underlying34 info_u8 rfl rfl rfl 1 33 (by simp) (by simp) (by omega) (by omega) (by unfold maxLen; omega) ?_
  intro w2 hg2 hf2 hz2
  clear hz2
  have st2 := st1.new hf2 hg2 (Nat.le_refl _)
  have hb2 := st1.fr.size
  skip
  clear st1 hg2 hf2
  generalize w1.heap.size = gb at *
  have HBB := Lib.hid hb2
  clear hb2
  rw [zeros_bs] at st2
  go_wp2_with (with_reducible refine wl_stop (o := ⟨some 10, _, _, _, _, _⟩) ?_)
  refine wl_loadSt st2 0 rfl rfl rfl Try.underlying72 rfl rfl (by first | (rw [cw_len]; kernel_rfl) | (simp only [List.length_append, cw_len]; kernel_rfl)) ?_
  go_wp2_with fail
  refine (none_any m HOK.out x y z true HB.out _).mono ?_
  rintro e' w3 ⟨rfl, hf3⟩
  have st3 := st2.keep hf3
  clear st2 hf3
  go_wp2_with (with_reducible refine wl_stop (o := ⟨some 13, _, _, _, _, _⟩) ?_)
  refine wl_append_zeros st3 1 rfl rfl rfl Try.underlying34 Try.underlying3 info_u8 rfl rfl (n := 1) (m := 32) (cap := 33) rfl rfl (by decide) (by decide) (by decide) (by rw [length_bs, List.length_replicate]; decide) (bs (List.replicate 33 0)) zeros_app ?_
  intro w4 st4
  clear st3
  have hown : Own w4 w.heap.size 5 1 (.slice (some ⟨gb, 0, none⟩) 33 33) 33 (bs (List.replicate 33 0)) := by
    have h := st4.at 1 rfl
    exact Own.made h w.heap.size HBB.out 1 33 33 (Nat.le_refl _) (by unfold maxLen; omega) (by decide)
  have hfr := st4.fr
  clear st4
  go_wp2_with fail
  go_ret
  exact ⟨_, rfl, hown, hfr⟩

theorem MInv_v (m : Md) (gp : Nat) (w : World) (hok : m.Ok) (hpm : Has w gp (mdL m) 134) (x r : Nat) (hr : x ^ (m.M - 2) = r) :
    Calls Try.prog 105 #[.pointer (some ⟨gp, 0, none⟩), i4 (elN m x)] w fun e w' => e = .returned (i4 (elN m r)) ∧ Fr Nob w w' := by
  subst hr; exact MInv_any m gp w hok hpm x
theorem MFrom_v (m : Md) (gp : Nat) (w : World) (hok : m.Ok) (hpm : Has w gp (mdL m) 134) (x r : Nat) (hr : x % m.M = r) :
    Calls Try.prog 106 #[.pointer (some ⟨gp, 0, none⟩), i4 (elN m x)] w fun e w' => e = .returned (i4 r) ∧ Fr Nob w w' := by
  subst hr; exact MFrom_any m gp w hok hpm x
set_option maxHeartbeats 16000000 in
set_option maxRecDepth 1000000 in
theorem bytes_v (m : Md) (gc gp bx by_ : Nat) (w : World) (hok : m.Ok) (hcv : Has w gc (crvL m gp bx by_) 93) (hpm : Has w gp (mdL m) 134) (x y z : Nat) (hb : (z % m.M == 0) = false) (i ii i3 yy v xx u : Nat) (ei : z ^ (m.M - 2) = i) (eii : i * i = ii) (ei3 : ii * i = i3) (eyy : y * i3 = yy) (ev : yy % m.M = v) (exx : x * ii = xx) (eu : xx % m.M = u) :
    Calls Try.prog 61 #[.pointer (some ⟨gc, 0, none⟩), ptV m x y z] w fun e w' => ∃ sv, e = .returned sv ∧ Own w' w.heap.size 5 1 sv 33 (bs (UInt8.ofNat (2 + v % 2) :: be32 u)) ∧ Fr Nob w w' := by
  have HOK := Lib.hid hok
  have HCV := Lib.hid hcv
  have HPM := Lib.hid hpm
  clear hok hcv hpm
  have HB := Lib.hid hb
  have Hi := Lib.hid ei
  have Hii := Lib.hid eii
  have Hi3 := Lib.hid ei3
  have Hyy := Lib.hid eyy
  have Hv := Lib.hid ev
  have Hxx := Lib.hid exx
  have Hu := Lib.hid eu
  clear hb ei eii ei3 eyy ev exx eu
  unfold ptV ptL
  have st0 := St.start Nob w
  go_enter Try.func61, Try.ntmps61
  go_wp2_with (with_reducible refine wl_stop (o := ⟨some 3, _, _, _, _, _⟩) ?_)
  refine wl_boxS st0 rfl rfl rfl (cw 4 (elN m x) ++ (cw 4 (elN m y) ++ cw 4 (elN m z))) rfl ?_
  intro g3 w1 st1
  clear st0
  go_wp2_with (with_reducible refine wl_stop (o := ⟨some 9, _, _, _, _, _⟩) ?_)
  refine wl_make rfl rfl Try.underlying34 info_u8 rfl rfl rfl 1 33 (by simp) (by simp) (by omega) (by omega) (by unfold maxLen; omega) ?_
  intro w2 hg2 hf2 hz2
  clear hz2
  have st2 := st1.new hf2 hg2 (Nat.le_refl _)
  have hb2 := st1.fr.size
  skip
  clear st1 hg2 hf2
  generalize w1.heap.size = gb at *
  have HBB := Lib.hid hb2
  clear hb2
  rw [zeros_bs] at st2
  go_wp2_with (with_reducible refine wl_stop (o := ⟨some 10, _, _, _, _, _⟩) ?_)
  refine wl_loadSt st2 0 rfl rfl rfl Try.underlying72 rfl rfl (by first | (rw [cw_len]; kernel_rfl) | (simp only [List.length_append, cw_len]; kernel_rfl)) ?_
  go_wp2_with fail
  refine (none_any m HOK.out x y z false HB.out _).mono ?_
  rintro e' w3 ⟨rfl, hf3⟩
  have st3 := st2.keep hf3
  clear st2 hf3
  go_wp2_with fail
  refine wp_region_noPanic ?_
  refine wp_region_plan (fun wx => St Nob w wx [(g3, cw 4 (elN m x) ++ (cw 4 (elN m y) ++ cw 4 (elN m z)), 72), (gb, bs (List.replicate 33 0), 5)]) 8 (.w 0 (.w 1 (.w 2 (.t 3 (.w 4 (.t 5 (.b 6 7 (.r 7 (.m 8 .nil)) (.r 6 (.m 8 .nil))))))))) (by kernel_rfl) (by kernel_rfl) st3.drew (fun _ _ _ _ _ h => h) ?_
  have hd3 := st3.drew
  clear st3
  refine plan_w (v := ?_) rfl rfl (fun wx => ?_) ?_
  rotate_left 1
  · (go_simp; with_reducible rfl)
  try simp only [Act.put, List.setIfInBounds_toArray, List.set_cons_zero, List.set_cons_succ]
  refine plan_w (v := ?_) rfl rfl (fun wx => ?_) ?_
  rotate_left 1
  · (go_simp; with_reducible rfl)
  try simp only [Act.put, List.setIfInBounds_toArray, List.set_cons_zero, List.set_cons_succ]
  refine plan_w (v := ?_) rfl rfl (fun wx => ?_) ?_
  rotate_left 1
  · (go_simp; with_reducible rfl)
  try simp only [Act.put, List.setIfInBounds_toArray, List.set_cons_zero, List.set_cons_succ]
  refine plan_t (v := ?_) rfl rfl (fun wx hS => ?_) ?_
  rotate_left 1
  · (have hc := (HCV.out.keep (St.fr hS) id).cell (i := 0) rfl; clear hS; go_simp; with_reducible rfl)
  try simp only [Act.put, List.setIfInBounds_toArray, List.set_cons_zero, List.set_cons_succ]
  refine plan_w (v := ?_) rfl rfl (fun wx => ?_) ?_
  rotate_left 1
  · (go_simp; with_reducible rfl)
  try simp only [Act.put, List.setIfInBounds_toArray, List.set_cons_zero, List.set_cons_succ]
  refine plan_arr rfl rfl rfl rfl (cw 4 (elN m z)) (fun wx hS => St.rangeL hS 0 rfl 8 _ (pt_z _ _ _)) Try.underlying70 rfl (by first | (rw [cw_len]; kernel_rfl) | (simp only [List.length_append, cw_len]; kernel_rfl)) ?_
  try simp only [Act.put, List.setIfInBounds_toArray, List.set_cons_zero, List.set_cons_succ]
  refine plan_key1 (C := fun g6 wz => St Nob w wz [(g3, cw 4 (elN m x) ++ (cw 4 (elN m y) ++ cw 4 (elN m z)), 72), (gb, bs (List.replicate 33 0), 5), (g6, cw 4 (elN m i), 70)]) (F := ?_) (fun key => ?_) ?_
  rotate_left 1
  · skip
    refine plan_b0 rfl rfl rfl rfl ?_ ?_
    · skip
      go_simp
      refine (MInv_v m gp _ HOK.out (HPM.out.keep hd3.fr id) z i Hi.out).mono ?_
      rintro e' w4 ⟨rfl, hf4⟩
      have st4 := hd3.keep hf4
      clear hf4
      refine ⟨st4, ?_⟩
      try simp only [Act.put, List.setIfInBounds_toArray, List.set_cons_zero, List.set_cons_succ]
      refine plan_r rfl rfl ?_
      refine wp_allocS st4 rfl (z := .agg #[.int .u64 0, .int .u64 0, .int .u64 0, .int .u64 0]) (by kernel_rfl) (cw 4 0) (by rw [cw_zero]; rfl) ?_
      intro g6 w5 st5
      refine ⟨St.less st5 (by simp), ?_⟩
      try simp only [Act.put, List.setIfInBounds_toArray, List.set_cons_zero, List.set_cons_succ]
      refine plan_m rfl rfl ?_
      refine wp_storeS st5 2 rfl rfl rfl rfl (by first | (simp only [cw_len]; done) | (simp only [List.length_append, cw_len]; done)) (by first | (rw [cw_len]; kernel_rfl) | (simp only [List.length_append, cw_len]; kernel_rfl)) (cw_one _ _) ?_
      intro w6 st6
      try simp only [Act.put]
      refine plan_end ?_
      exact key g6 _ st6
    · skip
      refine wp_allocS hd3 rfl (z := .agg #[.int .u64 0, .int .u64 0, .int .u64 0, .int .u64 0]) (by kernel_rfl) (cw 4 0) (by rw [cw_zero]; rfl) ?_
      intro g6 w7 st7
      refine ⟨St.less st7 (by simp), ?_⟩
      try simp only [Act.put, List.setIfInBounds_toArray, List.set_cons_zero, List.set_cons_succ]
      refine plan_r rfl rfl ?_
      go_simp
      refine (MInv_v m gp _ HOK.out (HPM.out.keep st7.fr id) z i Hi.out).mono ?_
      rintro e' w8 ⟨rfl, hf8⟩
      have st8 := st7.keep hf8
      clear hf8
      refine ⟨St.less st8 (by simp), ?_⟩
      try simp only [Act.put, List.setIfInBounds_toArray, List.set_cons_zero, List.set_cons_succ]
      refine plan_m rfl rfl ?_
      refine wp_storeS st8 2 rfl rfl rfl rfl (by first | (simp only [cw_len]; done) | (simp only [List.length_append, cw_len]; done)) (by first | (rw [cw_len]; kernel_rfl) | (simp only [List.length_append, cw_len]; kernel_rfl)) (cw_one _ _) ?_
      intro w9 st9
      try simp only [Act.put]
      refine plan_end ?_
      exact key g6 _ st9
  intro g6 w10 st10
  have st10 : St Nob w w10 [(g3, cw 4 (elN m x) ++ (cw 4 (elN m y) ++ cw 4 (elN m z)), 72), (gb, bs (List.replicate 33 0), 5), (g6, cw 4 (elN m i), 70)] := st10
  clear hd3
  refine NoPanic.normal ?_
  go_wp2_with fail
  refine wp_region_noPanic ?_
  refine wp_region_plan (fun wx => St Nob w wx [(g3, cw 4 (elN m x) ++ (cw 4 (elN m y) ++ cw 4 (elN m z)), 72), (gb, bs (List.replicate 33 0), 5), (g6, cw 4 (elN m i), 70)]) 7 (.w 0 (.w 1 (.w 2 (.t 3 (.t 4 (.b 5 6 (.r 6 (.m 7 .nil)) (.r 5 (.m 7 .nil)))))))) (by kernel_rfl) (by kernel_rfl) st10.drew (fun _ _ _ _ _ h => h) ?_
  have hd10 := st10.drew
  clear st10
  refine plan_w (v := ?_) rfl rfl (fun wx => ?_) ?_
  rotate_left 1
  · (go_simp; with_reducible rfl)
  try simp only [Act.put, List.setIfInBounds_toArray, List.set_cons_zero, List.set_cons_succ]
  refine plan_w (v := ?_) rfl rfl (fun wx => ?_) ?_
  rotate_left 1
  · (go_simp; with_reducible rfl)
  try simp only [Act.put, List.setIfInBounds_toArray, List.set_cons_zero, List.set_cons_succ]
  refine plan_w (v := ?_) rfl rfl (fun wx => ?_) ?_
  rotate_left 1
  · (go_simp; with_reducible rfl)
  try simp only [Act.put, List.setIfInBounds_toArray, List.set_cons_zero, List.set_cons_succ]
  refine plan_t (v := ?_) rfl rfl (fun wx hS => ?_) ?_
  rotate_left 1
  · (have hc := (HCV.out.keep (St.fr hS) id).cell (i := 0) rfl; clear hS; go_simp; with_reducible rfl)
  try simp only [Act.put, List.setIfInBounds_toArray, List.set_cons_zero, List.set_cons_succ]
  refine plan_arr rfl rfl rfl rfl (cw 4 (elN m i)) (fun wx hS => St.rangeL hS 2 rfl 0 _ (by rw [List.drop_zero, List.take_of_length_le (Nat.le_refl _)])) Try.underlying70 rfl (by first | (rw [cw_len]; kernel_rfl) | (simp only [List.length_append, cw_len]; kernel_rfl)) ?_
  try simp only [Act.put, List.setIfInBounds_toArray, List.set_cons_zero, List.set_cons_succ]
  refine plan_key1 (C := fun g7 wz => St Nob w wz [(g3, cw 4 (elN m x) ++ (cw 4 (elN m y) ++ cw 4 (elN m z)), 72), (gb, bs (List.replicate 33 0), 5), (g6, cw 4 (elN m i), 70), (g7, cw 4 (elN m ii), 70)]) (F := ?_) (fun key => ?_) ?_
  rotate_left 1
  · skip
    refine plan_b0 rfl rfl rfl rfl ?_ ?_
    · skip
      go_simp
      refine (MSquare_v m gp _ HOK.out (HPM.out.keep hd10.fr id) i ii Hii.out).mono ?_
      rintro e' w11 ⟨rfl, hf11⟩
      have st11 := hd10.keep hf11
      clear hf11
      refine ⟨st11, ?_⟩
      try simp only [Act.put, List.setIfInBounds_toArray, List.set_cons_zero, List.set_cons_succ]
      refine plan_r rfl rfl ?_
      refine wp_allocS st11 rfl (z := .agg #[.int .u64 0, .int .u64 0, .int .u64 0, .int .u64 0]) (by kernel_rfl) (cw 4 0) (by rw [cw_zero]; rfl) ?_
      intro g7 w12 st12
      refine ⟨St.less st12 (by simp), ?_⟩
      try simp only [Act.put, List.setIfInBounds_toArray, List.set_cons_zero, List.set_cons_succ]
      refine plan_m rfl rfl ?_
      refine wp_storeS st12 3 rfl rfl rfl rfl (by first | (simp only [cw_len]; done) | (simp only [List.length_append, cw_len]; done)) (by first | (rw [cw_len]; kernel_rfl) | (simp only [List.length_append, cw_len]; kernel_rfl)) (cw_one _ _) ?_
      intro w13 st13
      try simp only [Act.put]
      refine plan_end ?_
      exact key g7 _ st13
    · skip
      refine wp_allocS hd10 rfl (z := .agg #[.int .u64 0, .int .u64 0, .int .u64 0, .int .u64 0]) (by kernel_rfl) (cw 4 0) (by rw [cw_zero]; rfl) ?_
      intro g7 w14 st14
      refine ⟨St.less st14 (by simp), ?_⟩
      try simp only [Act.put, List.setIfInBounds_toArray, List.set_cons_zero, List.set_cons_succ]
      refine plan_r rfl rfl ?_
      go_simp
      refine (MSquare_v m gp _ HOK.out (HPM.out.keep st14.fr id) i ii Hii.out).mono ?_
      rintro e' w15 ⟨rfl, hf15⟩
      have st15 := st14.keep hf15
      clear hf15
      refine ⟨St.less st15 (by simp), ?_⟩
      try simp only [Act.put, List.setIfInBounds_toArray, List.set_cons_zero, List.set_cons_succ]
      refine plan_m rfl rfl ?_
      refine wp_storeS st15 3 rfl rfl rfl rfl (by first | (simp only [cw_len]; done) | (simp only [List.length_append, cw_len]; done)) (by first | (rw [cw_len]; kernel_rfl) | (simp only [List.length_append, cw_len]; kernel_rfl)) (cw_one _ _) ?_
      intro w16 st16
      try simp only [Act.put]
      refine plan_end ?_
      exact key g7 _ st16
  intro g7 w17 st17
  have st17 : St Nob w w17 [(g3, cw 4 (elN m x) ++ (cw 4 (elN m y) ++ cw 4 (elN m z)), 72), (gb, bs (List.replicate 33 0), 5), (g6, cw 4 (elN m i), 70), (g7, cw 4 (elN m ii), 70)] := st17
  clear hd10
  refine NoPanic.normal ?_
  go_wp2_with fail
  refine wp_region_noPanic ?_
  refine wp_region_plan (fun wx => St Nob w wx [(g3, cw 4 (elN m x) ++ (cw 4 (elN m y) ++ cw 4 (elN m z)), 72), (gb, bs (List.replicate 33 0), 5), (g6, cw 4 (elN m i), 70), (g7, cw 4 (elN m ii), 70)]) 20 (.w 0 (.w 1 (.w 2 (.t 3 (.w 4 (.w 5 (.w 6 (.t 7 (.w 8 (.t 9 (.w 10 (.w 11 (.w 12 (.t 13 (.t 14 (.t 15 (.b 16 19 (.b 17 19 (.b 18 19 (.r 19 (.m 20 .nil)) (.r 18 (.m 20 .nil))) (.r 17 (.r 18 (.m 20 .nil)))) (.r 16 (.r 17 (.r 18 (.m 20 .nil))))))))))))))))))))) (by kernel_rfl) (by kernel_rfl) st17.drew (fun _ _ _ _ _ h => h) ?_
  have hd17 := st17.drew
  clear st17
  refine plan_w (v := ?_) rfl rfl (fun wx => ?_) ?_
  rotate_left 1
  · (go_simp; with_reducible rfl)
  try simp only [Act.put, List.setIfInBounds_toArray, List.set_cons_zero, List.set_cons_succ]
  refine plan_w (v := ?_) rfl rfl (fun wx => ?_) ?_
  rotate_left 1
  · (go_simp; with_reducible rfl)
  try simp only [Act.put, List.setIfInBounds_toArray, List.set_cons_zero, List.set_cons_succ]
  refine plan_w (v := ?_) rfl rfl (fun wx => ?_) ?_
  rotate_left 1
  · (go_simp; with_reducible rfl)
  try simp only [Act.put, List.setIfInBounds_toArray, List.set_cons_zero, List.set_cons_succ]
  refine plan_t (v := ?_) rfl rfl (fun wx hS => ?_) ?_
  rotate_left 1
  · (have hc := (HCV.out.keep (St.fr hS) id).cell (i := 0) rfl; clear hS; go_simp; with_reducible rfl)
  try simp only [Act.put, List.setIfInBounds_toArray, List.set_cons_zero, List.set_cons_succ]
  refine plan_w (v := ?_) rfl rfl (fun wx => ?_) ?_
  rotate_left 1
  · (go_simp; with_reducible rfl)
  try simp only [Act.put, List.setIfInBounds_toArray, List.set_cons_zero, List.set_cons_succ]
  refine plan_w (v := ?_) rfl rfl (fun wx => ?_) ?_
  rotate_left 1
  · (go_simp; with_reducible rfl)
  try simp only [Act.put, List.setIfInBounds_toArray, List.set_cons_zero, List.set_cons_succ]
  refine plan_w (v := ?_) rfl rfl (fun wx => ?_) ?_
  rotate_left 1
  · (go_simp; with_reducible rfl)
  try simp only [Act.put, List.setIfInBounds_toArray, List.set_cons_zero, List.set_cons_succ]
  refine plan_t (v := ?_) rfl rfl (fun wx hS => ?_) ?_
  rotate_left 1
  · (have hc := (HCV.out.keep (St.fr hS) id).cell (i := 0) rfl; clear hS; go_simp; with_reducible rfl)
  try simp only [Act.put, List.setIfInBounds_toArray, List.set_cons_zero, List.set_cons_succ]
  refine plan_w (v := ?_) rfl rfl (fun wx => ?_) ?_
  rotate_left 1
  · (go_simp; with_reducible rfl)
  try simp only [Act.put, List.setIfInBounds_toArray, List.set_cons_zero, List.set_cons_succ]
  refine plan_arr rfl rfl rfl rfl (cw 4 (elN m y)) (fun wx hS => St.rangeL hS 0 rfl 4 _ (pt_y _ _ _)) Try.underlying70 rfl (by first | (rw [cw_len]; kernel_rfl) | (simp only [List.length_append, cw_len]; kernel_rfl)) ?_
  try simp only [Act.put, List.setIfInBounds_toArray, List.set_cons_zero, List.set_cons_succ]
  refine plan_w (v := ?_) rfl rfl (fun wx => ?_) ?_
  rotate_left 1
  · (go_simp; with_reducible rfl)
  try simp only [Act.put, List.setIfInBounds_toArray, List.set_cons_zero, List.set_cons_succ]
  refine plan_w (v := ?_) rfl rfl (fun wx => ?_) ?_
  rotate_left 1
  · (go_simp; with_reducible rfl)
  try simp only [Act.put, List.setIfInBounds_toArray, List.set_cons_zero, List.set_cons_succ]
  refine plan_w (v := ?_) rfl rfl (fun wx => ?_) ?_
  rotate_left 1
  · (go_simp; with_reducible rfl)
  try simp only [Act.put, List.setIfInBounds_toArray, List.set_cons_zero, List.set_cons_succ]
  refine plan_t (v := ?_) rfl rfl (fun wx hS => ?_) ?_
  rotate_left 1
  · (have hc := (HCV.out.keep (St.fr hS) id).cell (i := 0) rfl; clear hS; go_simp; with_reducible rfl)
  try simp only [Act.put, List.setIfInBounds_toArray, List.set_cons_zero, List.set_cons_succ]
  refine plan_arr rfl rfl rfl rfl (cw 4 (elN m ii)) (fun wx hS => St.rangeL hS 3 rfl 0 _ (by rw [List.drop_zero, List.take_of_length_le (Nat.le_refl _)])) Try.underlying70 rfl (by first | (rw [cw_len]; kernel_rfl) | (simp only [List.length_append, cw_len]; kernel_rfl)) ?_
  try simp only [Act.put, List.setIfInBounds_toArray, List.set_cons_zero, List.set_cons_succ]
  refine plan_arr rfl rfl rfl rfl (cw 4 (elN m i)) (fun wx hS => St.rangeL hS 2 rfl 0 _ (by rw [List.drop_zero, List.take_of_length_le (Nat.le_refl _)])) Try.underlying70 rfl (by first | (rw [cw_len]; kernel_rfl) | (simp only [List.length_append, cw_len]; kernel_rfl)) ?_
  try simp only [Act.put, List.setIfInBounds_toArray, List.set_cons_zero, List.set_cons_succ]
  refine plan_key1 (C := fun g8 wz => St Nob w wz [(g3, cw 4 (elN m x) ++ (cw 4 (elN m y) ++ cw 4 (elN m z)), 72), (gb, bs (List.replicate 33 0), 5), (g6, cw 4 (elN m i), 70), (g7, cw 4 (elN m ii), 70), (g8, cw 4 v, 82)]) (F := ?_) (fun key => ?_) ?_
  rotate_left 1
  · skip
    refine plan_b0 rfl rfl rfl rfl ?_ ?_
    · skip
      go_simp
      refine (MMul_v m gp _ HOK.out (HPM.out.keep hd17.fr id) ii i i3 Hi3.out).mono ?_
      rintro e' w18 ⟨rfl, hf18⟩
      have st18 := hd17.keep hf18
      clear hf18
      refine ⟨st18, ?_⟩
      try simp only [Act.put, List.setIfInBounds_toArray, List.set_cons_zero, List.set_cons_succ]
      refine plan_b0 rfl rfl rfl rfl ?_ ?_
      · skip
        go_simp
        refine (MMul_v m gp _ HOK.out (HPM.out.keep st18.fr id) y i3 yy Hyy.out).mono ?_
        rintro e' w19 ⟨rfl, hf19⟩
        have st19 := st18.keep hf19
        clear hf19
        refine ⟨st19, ?_⟩
        try simp only [Act.put, List.setIfInBounds_toArray, List.set_cons_zero, List.set_cons_succ]
        refine plan_b0 rfl rfl rfl rfl ?_ ?_
        · skip
          go_simp
          refine (MFrom_v m gp _ HOK.out (HPM.out.keep st19.fr id) yy v Hv.out).mono ?_
          rintro e' w20 ⟨rfl, hf20⟩
          have st20 := st19.keep hf20
          clear hf20
          refine ⟨st20, ?_⟩
          try simp only [Act.put, List.setIfInBounds_toArray, List.set_cons_zero, List.set_cons_succ]
          refine plan_r rfl rfl ?_
          refine wp_allocS st20 rfl (z := .agg #[.int .u64 0, .int .u64 0, .int .u64 0, .int .u64 0]) (by kernel_rfl) (cw 4 0) (by rw [cw_zero]; rfl) ?_
          intro g8 w21 st21
          refine ⟨St.less st21 (by simp), ?_⟩
          try simp only [Act.put, List.setIfInBounds_toArray, List.set_cons_zero, List.set_cons_succ]
          refine plan_m rfl rfl ?_
          refine wp_storeS st21 4 rfl rfl rfl rfl (by first | (simp only [cw_len]; done) | (simp only [List.length_append, cw_len]; done)) (by first | (rw [cw_len]; kernel_rfl) | (simp only [List.length_append, cw_len]; kernel_rfl)) (cw_one _ _) ?_
          intro w22 st22
          try simp only [Act.put]
          refine plan_end ?_
          exact key g8 _ st22
        · skip
          refine wp_allocS st19 rfl (z := .agg #[.int .u64 0, .int .u64 0, .int .u64 0, .int .u64 0]) (by kernel_rfl) (cw 4 0) (by rw [cw_zero]; rfl) ?_
          intro g8 w23 st23
          refine ⟨St.less st23 (by simp), ?_⟩
          try simp only [Act.put, List.setIfInBounds_toArray, List.set_cons_zero, List.set_cons_succ]
          refine plan_r rfl rfl ?_
          go_simp
          refine (MFrom_v m gp _ HOK.out (HPM.out.keep st23.fr id) yy v Hv.out).mono ?_
          rintro e' w24 ⟨rfl, hf24⟩
          have st24 := st23.keep hf24
          clear hf24
          refine ⟨St.less st24 (by simp), ?_⟩
          try simp only [Act.put, List.setIfInBounds_toArray, List.set_cons_zero, List.set_cons_succ]
          refine plan_m rfl rfl ?_
          refine wp_storeS st24 4 rfl rfl rfl rfl (by first | (simp only [cw_len]; done) | (simp only [List.length_append, cw_len]; done)) (by first | (rw [cw_len]; kernel_rfl) | (simp only [List.length_append, cw_len]; kernel_rfl)) (cw_one _ _) ?_
          intro w25 st25
          try simp only [Act.put]
          refine plan_end ?_
          exact key g8 _ st25
      · skip
        refine wp_allocS st18 rfl (z := .agg #[.int .u64 0, .int .u64 0, .int .u64 0, .int .u64 0]) (by kernel_rfl) (cw 4 0) (by rw [cw_zero]; rfl) ?_
        intro g8 w26 st26
        refine ⟨St.less st26 (by simp), ?_⟩
        try simp only [Act.put, List.setIfInBounds_toArray, List.set_cons_zero, List.set_cons_succ]
        refine plan_r rfl rfl ?_
        go_simp
        refine (MMul_v m gp _ HOK.out (HPM.out.keep st26.fr id) y i3 yy Hyy.out).mono ?_
        rintro e' w27 ⟨rfl, hf27⟩
        have st27 := st26.keep hf27
        clear hf27
        refine ⟨St.less st27 (by simp), ?_⟩
        try simp only [Act.put, List.setIfInBounds_toArray, List.set_cons_zero, List.set_cons_succ]
        refine plan_r rfl rfl ?_
        go_simp
        refine (MFrom_v m gp _ HOK.out (HPM.out.keep st27.fr id) yy v Hv.out).mono ?_
        rintro e' w28 ⟨rfl, hf28⟩
        have st28 := st27.keep hf28
        clear hf28
        refine ⟨St.less st28 (by simp), ?_⟩
        try simp only [Act.put, List.setIfInBounds_toArray, List.set_cons_zero, List.set_cons_succ]
        refine plan_m rfl rfl ?_
        refine wp_storeS st28 4 rfl rfl rfl rfl (by first | (simp only [cw_len]; done) | (simp only [List.length_append, cw_len]; done)) (by first | (rw [cw_len]; kernel_rfl) | (simp only [List.length_append, cw_len]; kernel_rfl)) (cw_one _ _) ?_
        intro w29 st29
        try simp only [Act.put]
        refine plan_end ?_
        exact key g8 _ st29
    · skip
      refine wp_allocS hd17 rfl (z := .agg #[.int .u64 0, .int .u64 0, .int .u64 0, .int .u64 0]) (by kernel_rfl) (cw 4 0) (by rw [cw_zero]; rfl) ?_
      intro g8 w30 st30
      refine ⟨St.less st30 (by simp), ?_⟩
      try simp only [Act.put, List.setIfInBounds_toArray, List.set_cons_zero, List.set_cons_succ]
      refine plan_r rfl rfl ?_
      go_simp
      refine (MMul_v m gp _ HOK.out (HPM.out.keep st30.fr id) ii i i3 Hi3.out).mono ?_
      rintro e' w31 ⟨rfl, hf31⟩
      have st31 := st30.keep hf31
      clear hf31
      refine ⟨St.less st31 (by simp), ?_⟩
      try simp only [Act.put, List.setIfInBounds_toArray, List.set_cons_zero, List.set_cons_succ]
      refine plan_r rfl rfl ?_
      go_simp
      refine (MMul_v m gp _ HOK.out (HPM.out.keep st31.fr id) y i3 yy Hyy.out).mono ?_
      rintro e' w32 ⟨rfl, hf32⟩
      have st32 := st31.keep hf32
      clear hf32
      refine ⟨St.less st32 (by simp), ?_⟩
      try simp only [Act.put, List.setIfInBounds_toArray, List.set_cons_zero, List.set_cons_succ]
      refine plan_r rfl rfl ?_
      go_simp
      refine (MFrom_v m gp _ HOK.out (HPM.out.keep st32.fr id) yy v Hv.out).mono ?_
      rintro e' w33 ⟨rfl, hf33⟩
      have st33 := st32.keep hf33
      clear hf33
      refine ⟨St.less st33 (by simp), ?_⟩
      try simp only [Act.put, List.setIfInBounds_toArray, List.set_cons_zero, List.set_cons_succ]
      refine plan_m rfl rfl ?_
      refine wp_storeS st33 4 rfl rfl rfl rfl (by first | (simp only [cw_len]; done) | (simp only [List.length_append, cw_len]; done)) (by first | (rw [cw_len]; kernel_rfl) | (simp only [List.length_append, cw_len]; kernel_rfl)) (cw_one _ _) ?_
      intro w34 st34
      try simp only [Act.put]
      refine plan_end ?_
      exact key g8 _ st34
  intro g8 w35 st35
  have st35 : St Nob w w35 [(g3, cw 4 (elN m x) ++ (cw 4 (elN m y) ++ cw 4 (elN m z)), 72), (gb, bs (List.replicate 33 0), 5), (g6, cw 4 (elN m i), 70), (g7, cw 4 (elN m ii), 70), (g8, cw 4 v, 82)] := st35
  clear hd17
  refine NoPanic.normal ?_
  have c1 := (st35.at 4 rfl).cell (cw_get 4 v 0 (by decide))
  obtain ⟨v3, c3, f3⟩ := (st35.at 1 rfl).ready (i := 0) (by rw [length_bs, List.length_replicate]; decide)
  have ha := low_and v
  have hb2 : v % 2 = 0 ∨ v % 2 = 1 := by omega
  generalize hbv : v % 2 = b at *
  have HBV := Lib.hid hbv
  clear hbv
  have ho := or_two b hb2
  have hw8 : IntKind.u8.wrap (b : Int) = (b : Int) := by rcases hb2 with rfl | rfl <;> decide
  have hst2 := st35.set 1 rfl 0 (.int .u8 ((2 + b : Nat) : Int))
  rw [zeros_set (2 + b) (by omega)] at hst2
  have hw16 : IntKind.u8.wrap ((2 + b : Nat) : Int) = ((2 + b : Nat) : Int) := by rcases hb2 with rfl | rfl <;> decide
  have HB2 := Lib.hid hb2
  clear hb2
  go_wp2_with fail
  have st36 : St Nob w _ [(g3, cw 4 (elN m x) ++ (cw 4 (elN m y) ++ cw 4 (elN m z)), 72), (gb, bb1 (2 + b), 5), (g6, cw 4 (elN m i), 70), (g7, cw 4 (elN m ii), 70), (g8, cw 4 v, 82)] := hst2
  clear st35 hst2 c1 c3 f3 ha ho hw8 hw16
  go_wp2_with fail
  refine wp_region_noPanic ?_
  refine wp_region_plan (fun wx => St Nob w wx [(g3, cw 4 (elN m x) ++ (cw 4 (elN m y) ++ cw 4 (elN m z)), 72), (gb, bb1 (2 + b), 5), (g6, cw 4 (elN m i), 70), (g7, cw 4 (elN m ii), 70), (g8, cw 4 v, 82)]) 15 (.w 0 (.w 1 (.w 2 (.w 3 (.t 4 (.w 5 (.w 6 (.w 7 (.t 8 (.w 9 (.t 10 (.t 11 (.r 12 (.r 13 (.r 14 (.m 15 (.w 16 .nil))))))))))))))))) (by kernel_rfl) (by kernel_rfl) st36.drew (fun _ _ _ _ _ h => h) ?_
  have hd36 := st36.drew
  clear st36
  refine plan_w (v := ?_) rfl rfl (fun wx => ?_) ?_
  rotate_left 1
  · (go_simp; with_reducible rfl)
  try simp only [Act.put, List.setIfInBounds_toArray, List.set_cons_zero, List.set_cons_succ]
  refine plan_w (v := ?_) rfl rfl (fun wx => ?_) ?_
  rotate_left 1
  · (go_simp; with_reducible rfl)
  try simp only [Act.put, List.setIfInBounds_toArray, List.set_cons_zero, List.set_cons_succ]
  refine plan_w (v := ?_) rfl rfl (fun wx => ?_) ?_
  rotate_left 1
  · (go_simp; with_reducible rfl)
  try simp only [Act.put, List.setIfInBounds_toArray, List.set_cons_zero, List.set_cons_succ]
  refine plan_w (v := ?_) rfl rfl (fun wx => ?_) ?_
  rotate_left 1
  · (go_simp; with_reducible rfl)
  try simp only [Act.put, List.setIfInBounds_toArray, List.set_cons_zero, List.set_cons_succ]
  refine plan_t (v := ?_) rfl rfl (fun wx hS => ?_) ?_
  rotate_left 1
  · (have hc := (HCV.out.keep (St.fr hS) id).cell (i := 0) rfl; clear hS; go_simp; with_reducible rfl)
  try simp only [Act.put, List.setIfInBounds_toArray, List.set_cons_zero, List.set_cons_succ]
  refine plan_w (v := ?_) rfl rfl (fun wx => ?_) ?_
  rotate_left 1
  · (go_simp; with_reducible rfl)
  try simp only [Act.put, List.setIfInBounds_toArray, List.set_cons_zero, List.set_cons_succ]
  refine plan_w (v := ?_) rfl rfl (fun wx => ?_) ?_
  rotate_left 1
  · (go_simp; with_reducible rfl)
  try simp only [Act.put, List.setIfInBounds_toArray, List.set_cons_zero, List.set_cons_succ]
  refine plan_w (v := ?_) rfl rfl (fun wx => ?_) ?_
  rotate_left 1
  · (go_simp; with_reducible rfl)
  try simp only [Act.put, List.setIfInBounds_toArray, List.set_cons_zero, List.set_cons_succ]
  refine plan_t (v := ?_) rfl rfl (fun wx hS => ?_) ?_
  rotate_left 1
  · (have hc := (HCV.out.keep (St.fr hS) id).cell (i := 0) rfl; clear hS; go_simp; with_reducible rfl)
  try simp only [Act.put, List.setIfInBounds_toArray, List.set_cons_zero, List.set_cons_succ]
  refine plan_w (v := ?_) rfl rfl (fun wx => ?_) ?_
  rotate_left 1
  · (go_simp; with_reducible rfl)
  try simp only [Act.put, List.setIfInBounds_toArray, List.set_cons_zero, List.set_cons_succ]
  refine plan_arr rfl rfl rfl rfl (cw 4 (elN m x)) (fun wx hS => St.rangeL hS 0 rfl 0 _ (pt_x _ _ _)) Try.underlying70 rfl (by first | (rw [cw_len]; kernel_rfl) | (simp only [List.length_append, cw_len]; kernel_rfl)) ?_
  try simp only [Act.put, List.setIfInBounds_toArray, List.set_cons_zero, List.set_cons_succ]
  refine plan_arr rfl rfl rfl rfl (cw 4 (elN m ii)) (fun wx hS => St.rangeL hS 3 rfl 0 _ (by rw [List.drop_zero, List.take_of_length_le (Nat.le_refl _)])) Try.underlying70 rfl (by first | (rw [cw_len]; kernel_rfl) | (simp only [List.length_append, cw_len]; kernel_rfl)) ?_
  try simp only [Act.put, List.setIfInBounds_toArray, List.set_cons_zero, List.set_cons_succ]
  refine plan_r rfl rfl ?_
  go_simp
  refine (MMul_v m gp _ HOK.out (HPM.out.keep hd36.fr id) x ii xx Hxx.out).mono ?_
  rintro e' w37 ⟨rfl, hf37⟩
  have st37 := hd36.keep hf37
  clear hf37
  clear hd36
  refine ⟨st37, ?_⟩
  try simp only [Act.put, List.setIfInBounds_toArray, List.set_cons_zero, List.set_cons_succ]
  refine plan_r rfl rfl ?_
  go_simp
  refine (MFrom_v m gp _ HOK.out (HPM.out.keep st37.fr id) xx u Hu.out).mono ?_
  rintro e' w38 ⟨rfl, hf38⟩
  have st38 := st37.keep hf38
  clear hf38
  clear st37
  refine ⟨st38, ?_⟩
  try simp only [Act.put, List.setIfInBounds_toArray, List.set_cons_zero, List.set_cons_succ]
  refine plan_r rfl rfl ?_
  go_simp
  refine (MBytes_any u _).mono ?_
  rintro e' w39 ⟨vb, rfl, hownb, hf39⟩
  have st39 := st38.keep hf39
  obtain ⟨va, vc, rfl, -, hrd, -⟩ := hownb.form
  clear hownb
  clear hf39
  clear st38
  refine ⟨st39, ?_⟩
  try simp only [Act.put, List.setIfInBounds_toArray, List.set_cons_zero, List.set_cons_succ]
  refine plan_m rfl rfl ?_
  refine wp_append_in st39 1 rfl rfl Try.underlying34 info_u8 (n := 1) (m := 32) (cap := 33) rfl rfl hrd (bs_one _) (by decide) (by have := bb1_len (2 + b); omega) (bb2 (2 + b) u) (bytes_splice _ _) ?_
  intro w40 st40
  have st40 : St Nob w w40 [(g3, cw 4 (elN m x) ++ (cw 4 (elN m y) ++ cw 4 (elN m z)), 72), (gb, bb2 (2 + b) u, 5), (g6, cw 4 (elN m i), 70), (g7, cw 4 (elN m ii), 70), (g8, cw 4 v, 82)] := st40
  clear st39 hrd
  try simp only [Act.put, List.setIfInBounds_toArray, List.set_cons_zero, List.set_cons_succ]
  refine plan_w (v := ?_) rfl rfl (fun wx => ?_) ?_
  rotate_left 1
  · (go_simp; with_reducible rfl)
  try simp only [Act.put, List.setIfInBounds_toArray, List.set_cons_zero, List.set_cons_succ]
  refine plan_end ?_
  refine NoPanic.normal ?_
  have hown : Own w40 w.heap.size 5 1 (.slice (some ⟨gb, 0, none⟩) 33 33) 33 (bb2 (2 + b) u) := by
    have h := st40.at 1 rfl
    have h2 := Own.made h w.heap.size HBB.out 1 33 33 (Nat.le_refl _) (by unfold maxLen; omega) (by have := bb2_len (2 + b) u; omega)
    rwa [List.take_of_length_le (by have := bb2_len (2 + b) u; omega)] at h2
  have hfr := st40.fr
  clear st40
  go_wp2_with fail
  go_ret
  exact ⟨_, rfl, by rw [HBV.out]; unfold bb2 at hown; exact hown, hfr⟩
end Go.Proofs.Ytdbgddngapminaa

/- A plan for a region whose operations have guards. -/
namespace Go.Mv
open Go.RowKit
section
variable {P : Program} {ops : Array Oper} {md : Region.Mode} {Q : Exit → Act → World → Prop} {S : World → Prop} {m : Nat}
def wpPlanG (P : Program) (ops : Array Oper) (Q : Exit → Act → World → Prop) (S : World → Prop) : Pl → Act → World → Prop
  | .nil, a, w => Q .normal a w
  | .w i s, a, w => ∃ o v, ops[i]? = some o ∧ YieldsIf P ops (fun _ => True) o v a ∧ wpPlanG P ops Q S s (a.put o.dst v) w
  | .t i s, a, w => ∃ o v, ops[i]? = some o ∧ YieldsIf P ops S o v a ∧ wpPlanG P ops Q S s (a.put o.dst v) w
  | .r i s, a, w => wpOp P ops Q i (fun a' w' => S w' ∧ wpPlanG P ops Q S s a' w') a w
  | .m i s, a, w => wpOp P ops Q i (fun a' w' => wpPlanG P ops Q S s a' w') a w
  | .b _ _ _ _, _, _ => False
  | .c _ _ _ _ _ _, _, _ => False
theorem wpP_of_planG (hsel : Region.noSelect ops = true) (hm : m < ops.size) (hQ : ∀ c (d : Option Tmp) v a w, Q (.panic c) (Act.put a d v) w → Q (.panic c) a w) :
    ∀ (s : Pl) (listed : Array Bool) (a : Act) (w : World), Cl md ops listed → planOk md ops m s listed = true → (listed.getD m true = false → S w) → wpPlanG P ops Q S s a w → wpP P md ops Q S m s.len listed a w
  | .nil, listed, a, w, _, hB, _, h => ⟨by simpa [planOk] using hB, h⟩
  | .w i r, listed, a, w, inv, hB, hS, h => by
    obtain ⟨o, v, ho, hy, hK⟩ := h
    simp only [planOk, Bool.and_eq_true, decide_eq_true_eq] at hB
    obtain ⟨⟨⟨him, hr⟩, hf⟩, hB'⟩ := hB
    have hr' : i ∈ Region.ready md ops listed := by simpa using hr
    exact wpP_takeW ho (Region.noSelect_spec hsel) (fun c a w => hQ c o.dst v a w) him hm r.len listed a w inv (Region.free_spec ho hf) hr' hy hS
      (wpP_of_planG hsel hm hQ r _ _ w (inv.set hr') hB' (fun h => hS (by rwa [getD_set_ne true him] at h)) hK)
  | .t i r, listed, a, w, inv, hB, hS, h => by
    obtain ⟨o, v, ho, hy, hK⟩ := h
    simp only [planOk, Bool.and_eq_true, decide_eq_true_eq] at hB
    obtain ⟨⟨⟨⟨⟨him, hml⟩, hr⟩, hf⟩, han⟩, hB'⟩ := hB
    have hr' : i ∈ Region.ready md ops listed := by simpa using hr
    exact wpP_takeS ho (Region.noSelect_spec hsel) (fun c a w => hQ c o.dst v a w) him han r.len listed a w inv hml (Region.free_spec ho hf) hr' hy (hS hml)
      (wpP_of_planG hsel hm hQ r _ _ w (inv.set hr') hB' (fun _ => hS hml) hK)
  | .r i r, listed, a, w, inv, hB, hS, h => by
    simp only [planOk, Bool.and_eq_true, decide_eq_true_eq] at hB
    obtain ⟨⟨⟨him, hml⟩, hr⟩, hB'⟩ := hB
    have hr' : i ∈ Region.ready md ops listed := by rw [hr]; simp
    refine ⟨fun h0 => (by rw [hr] at h0; cases h0), fun j hj => ?_⟩
    rw [hr] at hj
    have hj' : j = i := by simpa using hj
    subst hj'
    exact wpOp_mono (fun a' w' h' => ⟨fun _ _ => h'.1, wpP_of_planG hsel hm hQ r _ a' w' (inv.set hr') hB' (fun _ => h'.1) h'.2⟩) h
  | .m i r, listed, a, w, inv, hB, hS, h => by
    simp only [planOk, Bool.and_eq_true, Bool.or_eq_true, decide_eq_true_eq] at hB
    obtain ⟨⟨him, hr⟩, hB'⟩ := hB
    have hr' : i ∈ Region.ready md ops listed := by rw [hr]; simp
    refine ⟨fun h0 => (by rw [hr] at h0; cases h0), fun j hj => ?_⟩
    rw [hr] at hj
    have hj' : j = i := by simpa using hj
    subst hj'
    have hml : (listed.setIfInBounds j true).getD m true = true := by
      rcases him with e | e
      · subst e; exact getD_set_self (by rw [inv.size]; exact hm)
      · by_cases e2 : j = m
        · subst e2; exact getD_set_self (by rw [inv.size]; exact hm)
        · rw [getD_set_ne true e2]; exact e
    refine wpOp_mono (fun a' w' h' => ⟨fun h1 h2 => ?_, wpP_of_planG hsel hm hQ r _ a' w' (inv.set hr') hB' (fun h1 => by rw [hml] at h1; cases h1) h'⟩) h
    rcases him with e | e
    · exact absurd e h2
    · rw [e] at h1; cases h1
  | .b _ _ _ _, _, _, _, _, _, _, h => h.elim
  | .c _ _ _ _ _ _, _, _, _, _, _, _, h => h.elim
theorem wp_region_planG {id : Nat} {a : Act} {w : World} {l : List Oper} (S : World → Prop) (m : Nat) (s : Pl) (hm : P.follows .mixedOrders = true) (hB : planAll l.toArray m s = true)
    (hS : S w.drew) (hQ : ∀ c (d : Option Tmp) v a w, Q (.panic c) (Act.put a d v) w → Q (.panic c) a w)
    (h : wpPlanG P l.toArray Q S s a w.drew) : (Code.region id l.toArray true).wp P Q a w := by
  simp only [planAll, Bool.and_eq_true, decide_eq_true_eq] at hB
  obtain ⟨⟨⟨hsel, hms⟩, hlen⟩, hseq⟩ := hB
  have inv0 : Cl .any l.toArray (Array.replicate l.toArray.size false) :=
    ⟨by simp, fun j oj _ hl => (by rw [getD_replicate_false] at hl; cases hl)⟩
  have H := wpP_of_planG (md := .any) hsel hms hQ s _ a w.drew inv0 hseq (fun _ => hS) h
  rw [hlen] at H
  exact wp_region_any hm (wpAny_of_P _ _ _ _ H)
variable {l : List Oper} {i : Nat} {s : Pl} {a : Act} {w : World} {o : Oper}
theorem planG_end (h : Q .normal a w) : wpPlanG P ops Q S .nil a w := h
theorem planG_w (ho : l[i]? = some o) (hg : Region.wanted o (yielded l.toArray a.tmps) = true) {v : Value} (hv : ∀ wx, (execOp a.eval o).run P wx = .ok (.value v) wx) (h : wpPlanG P l.toArray Q S s (a.put o.dst v) w) : wpPlanG P l.toArray Q S (.w i s) a w :=
  ⟨o, v, by simpa using ho, .inl ⟨hg, fun wx _ => hv wx⟩, h⟩
theorem planG_skip (ho : l[i]? = some o) (hg : Region.wanted o (yielded l.toArray a.tmps) = false) (h : wpPlanG P l.toArray Q S s (a.put o.dst undef) w) : wpPlanG P l.toArray Q S (.w i s) a w :=
  ⟨o, undef, by simpa using ho, .inr ⟨hg, rfl⟩, h⟩
theorem planG_skipt (ho : l[i]? = some o) (hg : Region.wanted o (yielded l.toArray a.tmps) = false) (h : wpPlanG P l.toArray Q S s (a.put o.dst undef) w) : wpPlanG P l.toArray Q S (.t i s) a w :=
  ⟨o, undef, by simpa using ho, .inr ⟨hg, rfl⟩, h⟩
theorem planG_t (ho : l[i]? = some o) (hg : Region.wanted o (yielded l.toArray a.tmps) = true) {v : Value} (hv : ∀ wx, S wx → (execOp a.eval o).run P wx = .ok (.value v) wx) (h : wpPlanG P l.toArray Q S s (a.put o.dst v) w) : wpPlanG P l.toArray Q S (.t i s) a w :=
  ⟨o, v, by simpa using ho, .inl ⟨hg, hv⟩, h⟩
theorem planG_arr (ho : l[i]? = some o) (hg : Region.wanted o (yielded l.toArray a.tmps) = true) {ty : TypeId} {x : Operand} (hop : o.op = .load ty x) {g p : Nat} (hx : a.eval x = .pointer (some ⟨g, p, none⟩)) (cs : List Value) (hS : ∀ wx, S wx → wx.rangeAt g p cs)
    {d : TypeDesc} (hu : P.underlying ty = some d) (hd : d.isRow = true) (hi : (P.info? ty).map (·.size) = some cs.length) (h : wpPlanG P l.toArray Q S s (a.put o.dst (.agg cs.toArray)) w) : wpPlanG P l.toArray Q S (.t i s) a w :=
  ⟨o, _, by simpa using ho, yieldsIf_load_mid hg ty x hop g p hx cs d hS hu hd hi, h⟩
theorem planG_r (ho : l[i]? = some o) (hg : Region.wanted o (yielded l.toArray a.tmps) = true) (h : o.wp P a w (fun a' w' => S w' ∧ wpPlanG P l.toArray Q S s a' w') Q) : wpPlanG P l.toArray Q S (.r i s) a w := by
  have ho' : l.toArray[i]? = some o := by simpa using ho
  show wpOp _ _ _ _ _ _ _
  unfold wpOp
  simp only [ho']
  rw [if_pos hg]
  exact .inl h
theorem planG_rskip (ho : l[i]? = some o) (hg : Region.wanted o (yielded l.toArray a.tmps) = false) (h : S w ∧ wpPlanG P l.toArray Q S s (a.put o.dst undef) w) : wpPlanG P l.toArray Q S (.r i s) a w := by
  have ho' : l.toArray[i]? = some o := by simpa using ho
  show wpOp _ _ _ _ _ _ _
  unfold wpOp
  simp only [ho']
  rw [if_neg (by rw [hg]; decide)]
  exact h
theorem planG_m (ho : l[i]? = some o) (hg : Region.wanted o (yielded l.toArray a.tmps) = true) (h : o.wp P a w (fun a' w' => wpPlanG P l.toArray Q S s a' w') Q) : wpPlanG P l.toArray Q S (.m i s) a w := by
  have ho' : l.toArray[i]? = some o := by simpa using ho
  show wpOp _ _ _ _ _ _ _
  unfold wpOp
  simp only [ho']
  rw [if_pos hg]
  exact .inl h
end
end Go.Mv

/- group: read. -/
namespace Go.Mv
open Go.RowKit
theorem rd_first {w : World} {b o n : Nat} {vs : List Value} (h : Rd w (some ⟨b, o, none⟩) n vs) (v : Value) (hv : vs[0]? = some v) : w.cell? ⟨b, o, none⟩ = some v := by
  have hl : 0 < vs.length := by
    rcases Nat.eq_zero_or_pos vs.length with h0 | h0
    · rw [List.length_eq_zero_iff.1 h0] at hv; cases hv
    · exact h0
  obtain ⟨b', o', he, hc⟩ := h.at (by have := h.len; omega)
  simp only [Option.some.injEq, Addr.mk.injEq] at he
  obtain ⟨rfl, rfl, -⟩ := he
  simpa using hc 0 v hv
theorem RdB.tail {w : World} {a : Option Addr} {n : Nat} {l : List UInt8} (h : RdB w a n l) (c : Nat) (h1 : 1 ≤ n) (hc : n ≤ c) : RdB w (cutAt a 1 c) (n - 1) (l.drop 1) := by
  have h2 := cutAt_rd h 1 n c h1 hc (Nat.le_refl _)
  have hl := h.len
  have e : ((bs l).drop 1).take (n - 1) = bs (l.drop 1) := by
    rw [List.take_of_length_le (by rw [List.length_drop, length_bs]; omega)]
    simp [bs]
  rw [e] at h2
  exact h2
end Go.Mv
namespace Go.Proofs.Ytdbgddngapminaa
open Go.RowKit Go.Mv Mvp Mvq
theorem built_I0 : Try.prog.built 82 [] = some #[.int .u64 0, .int .u64 0, .int .u64 0, .int .u64 0] := by kernel_rfl
theorem built_P0 : Try.prog.built 72 [] = some (cw 4 0 ++ (cw 4 0 ++ cw 4 0)).toArray := by kernel_rfl
theorem size_u8g : (Try.prog.info? 5).map (·.size) = some 1 := by kernel_rfl
theorem size_u64g : (Try.prog.info? 22).map (·.size) = some 1 := by kernel_rfl
theorem exec_eqlI (x y : Nat) {o : Oper} {a : Act} {p q : Operand} {T : TypeId} (ho : o.op = .binOp .eql 82 p q T) (hp : a.eval p = i4 x) (hq : a.eval q = i4 y) {b : Bool} (hb : decide (x % B64 ^ 4 = y % B64 ^ 4) = b) (w : World) :
    (execOp a.eval o).run Try.prog w = .ok (.value (.bool b)) w := by
  subst hb
  exact exec_binop ho hp hq w (run_eqGuard_agg w .eql 82 p q _ _ Try.eqGuardType82) (eql_of_equal w (run_eq4 Try.underlying82 Try.underlying22 size_u64g x y w))
theorem tlN_lt (l : List UInt8) (h : l.length = 33) : tlN l < B64 ^ 4 := beN_le32 (l.drop 1) (by rw [List.length_drop]; omega)
theorem fb_tail (a : Option Addr) (c : Nat) (l : List UInt8) (w : World) (hb : RdB w a 32 (l.drop 1)) : Calls Try.prog 87 #[.slice a 32 c] w fun e w' => e = .returned (i4 (tlN l)) ∧ Fr Nob w w' :=
  FromBytes_any a 32 c (l.drop 1) w hb (by decide)
/-- the second coordinate that at answers -/
def atY (M n : Nat) : Nat := if rtOk M (crvN n) then rtV M (crvN n) else 0
theorem at_c (m : Md) (gc gp bx by_ : Nat) (w : World) (hok : m.Ok) (hcv : Has w gc (crvL m gp bx by_) 93) (hpm : Has w gp (mdL m) 134) (x : Nat) :
    Calls Try.prog 91 #[.pointer (some ⟨gc, 0, none⟩), i4 (elN m x)] w fun e w' => e = .returned (.tuple #[ptV m x (atY m.M x) 1, .bool (rtOk m.M (crvN x))]) ∧ Fr Nob w w' := by
  unfold atY
  cases h : rtOk m.M (crvN x)
  · exact at_no m gc gp bx by_ w hok hcv hpm x _ _ _ rfl rfl rfl h
  · exact at_ok m gc gp bx by_ w hok hcv hpm x _ _ _ rfl rfl rfl h
theorem MLess_v (a b : Nat) (w : World) (ha : a < B64 ^ 4) (hb : b < B64 ^ 4) (r : Bool) (hr : decide (a < b) = r) :
    Calls Try.prog 90 #[i4 a, i4 b] w fun e w' => e = .returned (.bool r) ∧ Fr Nob w w' := by
  subst hr; exact MLess_any a b w ha hb
theorem at_u (m : Md) (gc gp bx by_ : Nat) (w : World) (hok : m.Ok) (hcv : Has w gc (crvL m gp bx by_) 93) (hpm : Has w gp (mdL m) 134) (x : Nat) (r : Bool) (hr : rtOk m.M (crvN x) = r) :
    Calls Try.prog 91 #[.pointer (some ⟨gc, 0, none⟩), i4 (elN m x)] w fun e w' => e = .returned (.tuple #[.agg (cw 4 (elN m x) ++ (cw 4 (elN m (atY m.M x)) ++ cw 4 (elN m 1))).toArray, .bool r]) ∧ Fr Nob w w' := by
  subst hr; exact at_c m gc gp bx by_ w hok hcv hpm x
theorem opposite_u (m : Md) (gc gp bx by_ : Nat) (w : World) (hok : m.Ok) (hcv : Has w gc (crvL m gp bx by_) 93) (hpm : Has w gp (mdL m) 134) (x y z : Nat) :
    Calls Try.prog 47 #[.pointer (some ⟨gc, 0, none⟩), .agg (cw 4 (elN m x) ++ (cw 4 (elN m y) ++ cw 4 (elN m z))).toArray] w fun e w' => e = .returned (.agg (cw 4 (elN m x) ++ (cw 4 (elN m (m.M - y % m.M)) ++ cw 4 (elN m z))).toArray) ∧ Fr Nob w w' :=
  opposite_any m gc gp bx by_ w hok hcv hpm x y z
attribute [local irreducible] limbs lw mix cw cSub cAdd cMul beN laid be32 montT mstep elN mdL numB rtN rtV rtOk gXn gYn tlN atY crvN
theorem words_zI : (Value.agg #[.int .u64 0, .int .u64 0, .int .u64 0, .int .u64 0]) = i4 0 := by rw [i4, cw_zero]; rfl
set_option maxHeartbeats 8000000 in
set_option maxRecDepth 100000 in
theorem IZero_any (x : Nat) (hx : x < B64 ^ 4) (b : Bool) (hb : (x == 0) = b) (w : World) :
    Calls Try.prog 89 #[i4 x] w fun e w' => e = .returned (.bool b) ∧ Fr Nob w w' := by
  subst hb
  have HB := Lib.hid (show decide (x % B64 ^ 4 = 0 % B64 ^ 4) = (x == 0) by rw [Nat.mod_eq_of_lt hx, Nat.zero_mod]; rfl)
  clear hx
  have st0 := St.start Nob w
  go_enter Try.func89, Try.ntmps89
  go_wp2_with (with_reducible refine wl_stop (o := ⟨some 1, _, _, _, _, _⟩) ?_)
  refine wl_boxS st0 rfl rfl rfl (cw 4 x) rfl ?_
  intro g1 w1 st1
  clear st0
  go_wp2_with (with_reducible refine wl_stop (o := ⟨some 3, _, _, _, _, _⟩) ?_)
  refine wl_loadS st1 0 rfl rfl rfl Try.underlying82 rfl (by first | (rw [cw_len]; kernel_rfl) | (simp only [List.length_append, cw_len]; kernel_rfl)) ?_
  go_wp2_with (with_reducible refine wl_stop (o := ⟨some 4, _, _, _, _, _⟩) ?_)
  refine wl_build0 rfl rfl _ built_I0 ?_
  rw [words_zI]
  go_wp2_with (with_reducible refine wl_stop (o := ⟨some 5, _, _, _, _, _⟩) ?_)
  refine wl_exec rfl (exec_eqlI x 0 rfl rfl rfl HB.out _) ?_
  have hfr := st1.fr
  clear st1
  go_wp2_with fail
  go_ret
  exact ⟨rfl, hfr⟩

set_option maxHeartbeats 16000000 in
set_option maxRecDepth 1000000 in
theorem read_len (m : Md) (gc gp bx by_ : Nat) (w : World) (hok : m.Ok) (hcv : Has w gc (crvL m gp bx by_) 93) (hpm : Has w gp (mdL m) 134) (a : Option Addr) (n c : Nat) (l : List UInt8) (hb : RdB w a n l) (_hc : n ≤ c) (h33 : l.length ≠ 33) :
    Calls Try.prog 42 #[.pointer (some ⟨gc, 0, none⟩), .slice a n c] w fun e w' => e = .returned (.tuple #[ptV m 0 0 0, .bool false]) ∧ Fr Nob w w' := by
  have HOK := Lib.hid hok
  have HCV := Lib.hid hcv
  have HPM := Lib.hid hpm
  clear hok hcv hpm
  have HN := Lib.hid (show n ≠ 33 by have := hb.len; omega)
  clear hb _hc h33
  have st0 := St.start Nob w
  go_enter Try.func42, Try.ntmps42
  go_wp2_with (with_reducible refine wl_stop (o := ⟨some 4, _, _, _, _, _⟩) ?_)
  refine wl_allocS st0 rfl rfl (z := .agg (List.replicate 12 (.int .u64 0)).toArray) (by kernel_rfl) (cw 4 0 ++ (cw 4 0 ++ cw 4 0)) (by rw [cw_zero]; rfl) ?_
  intro g4 w1 st1
  clear st0
  have hne : ((n : Int) != 33) = true := by have := HN.out; simp; omega
  go_wp2_with (with_reducible refine wl_stop (o := ⟨some 12, _, _, _, _, _⟩) ?_)
  refine wl_build0 rfl rfl _ built_P0 ?_
  go_wp2_with (with_reducible refine wl_stop (o := ⟨none, _, _, _, _, _⟩) ?_)
  refine wl_storeS st1 0 rfl rfl rfl rfl rfl (by first | (simp only; done) | (simp only [List.length_append, cw_len]; done)) (by first | (rw [cw_len]; kernel_rfl) | (simp only [List.length_append, cw_len]; kernel_rfl)) (pt_one _ _ _) ?_
  intro w2 st2
  clear st1
  have hr := st2.at 0 rfl
  have hfr := st2.fr
  clear st2
  go_wp2_with fail
  exact bodyPost_ret (results_st2 rfl rfl hr Try.underlying72 rfl (by first | (rw [cw_len]; kernel_rfl) | (simp only [List.length_append, cw_len]; kernel_rfl)) rfl) rfl ⟨by unfold ptV ptL; rw [el_zero]; rfl, hfr⟩

set_option maxHeartbeats 16000000 in
set_option maxRecDepth 1000000 in
theorem read_zero (m : Md) (gc gp bx by_ : Nat) (w : World) (hok : m.Ok) (hcv : Has w gc (crvL m gp bx by_) 93) (hpm : Has w gp (mdL m) 134) (a : Option Addr) (n c : Nat) (l : List UInt8) (hb : RdB w a n l) (hc : n ≤ c) (h33 : l.length = 33) (h0 : (bs l)[0]? = some (.int .u8 0)) (b : Bool) (hzb : (tlN l == 0) = b) :
    Calls Try.prog 42 #[.pointer (some ⟨gc, 0, none⟩), .slice a n c] w fun e w' => e = .returned (.tuple #[ptV m 1 1 0, .bool b]) ∧ Fr Nob w w' := by
  have HOK := Lib.hid hok
  have HCV := Lib.hid hcv
  have HPM := Lib.hid hpm
  clear hok hcv hpm
  have h33n : n = 33 := by have := hb.len; omega
  subst h33n
  obtain ⟨ba, oa, rfl, -⟩ := Rd.at hb (by decide)
  have HB := Lib.hid hb
  have HC := Lib.hid hc
  have HT := Lib.hid (RdB.tail hb c (by decide) hc)
  have H0 := Lib.hid h0
  have HTN := Lib.hid (tlN_lt l h33)
  clear hb hc h33 h0
  have HZB := Lib.hid hzb
  clear hzb
  have st0 := St.start Nob w
  go_enter Try.func42, Try.ntmps42
  go_wp2_with (with_reducible refine wl_stop (o := ⟨some 4, _, _, _, _, _⟩) ?_)
  refine wl_allocS st0 rfl rfl (z := .agg (List.replicate 12 (.int .u64 0)).toArray) (by kernel_rfl) (cw 4 0 ++ (cw 4 0 ++ cw 4 0)) (by rw [cw_zero]; rfl) ?_
  intro g4 w1 st1
  clear st0
  have hne : (((33 : Nat) : Int) != 33) = false := by rfl
  go_wp2_with (with_reducible refine wl_stop (o := ⟨some 14, _, _, _, _, _⟩) ?_)
  refine wl_cut rfl rfl Try.underlying34 size_u8g rfl 1 33 ⟨_, rfl⟩ rfl (by decide) HC.out ?_
  rw [show (33 : Nat) - 1 = 32 from rfl]
  go_wp2_with fail
  refine (fb_tail _ _ l _ (HT.out.still st1.fr)).mono ?_
  rintro e' w2 ⟨rfl, hf2⟩
  have st2 := st1.keep hf2
  clear st1 hf2
  go_wp2_with (with_reducible refine wl_stop (o := ⟨some 6, _, _, _, _, _⟩) ?_)
  refine wl_allocS st2 rfl rfl (z := .agg #[.int .u64 0, .int .u64 0, .int .u64 0, .int .u64 0]) (by kernel_rfl) (cw 4 0) (by rw [cw_zero]; rfl) ?_
  intro g6 w3 st3
  clear st2
  go_wp2_with (with_reducible refine wl_stop (o := ⟨none, _, _, _, _, _⟩) ?_)
  refine wl_storeS st3 1 rfl rfl rfl rfl rfl (by first | (simp only [cw_len]; done) | (simp only [List.length_append, cw_len]; done)) (by first | (rw [cw_len]; kernel_rfl) | (simp only [List.length_append, cw_len]; kernel_rfl)) (cw_one _ _) ?_
  intro w4 st4
  clear st3
  have hcell := rd_first (HB.out.still st4.fr) _ H0.out
  go_wp2_with fail
  clear hcell
  go_wp2_with fail
  refine wp_region_noPanic ?_
  refine wp_region_plan (fun wx => St Nob w wx [(g4, cw 4 0 ++ (cw 4 0 ++ cw 4 0), 72), (g6, cw 4 (tlN l), 82)]) 4 (.w 0 (.t 2 (.r 1 (.r 3 (.m 4 (.w 5 .nil)))))) (by kernel_rfl) (by kernel_rfl) st4.drew (fun _ _ _ _ _ h => h) ?_
  have hd4 := st4.drew
  clear st4
  refine plan_w (v := ?_) rfl rfl (fun wx => ?_) ?_
  rotate_left 1
  · (go_simp; with_reducible rfl)
  try simp only [Act.put, List.setIfInBounds_toArray, List.set_cons_zero, List.set_cons_succ]
  refine plan_arr rfl rfl rfl rfl (cw 4 (tlN l)) (fun wx hS => St.rangeL hS 1 rfl 0 _ (by rw [List.drop_zero, List.take_of_length_le (Nat.le_refl _)])) Try.underlying82 rfl (by first | (rw [cw_len]; kernel_rfl) | (simp only [List.length_append, cw_len]; kernel_rfl)) ?_
  try simp only [Act.put, List.setIfInBounds_toArray, List.set_cons_zero, List.set_cons_succ]
  refine plan_r rfl rfl ?_
  go_simp
  refine (nothing_u m gc gp bx by_ _ HOK.out (HCV.out.keep hd4.fr id) (HPM.out.keep hd4.fr id)).mono ?_
  rintro e' w5 ⟨rfl, hf5⟩
  have st5 := hd4.keep hf5
  clear hf5
  clear hd4
  refine ⟨st5, ?_⟩
  try simp only [Act.put, List.setIfInBounds_toArray, List.set_cons_zero, List.set_cons_succ]
  refine plan_r rfl rfl ?_
  go_simp
  refine (IZero_any (tlN l) HTN.out b HZB.out _).mono ?_
  rintro e' w6 ⟨rfl, hf6⟩
  have st6 := st5.keep hf6
  clear hf6
  clear st5
  refine ⟨st6, ?_⟩
  try simp only [Act.put, List.setIfInBounds_toArray, List.set_cons_zero, List.set_cons_succ]
  refine plan_m rfl rfl ?_
  refine wp_storeS st6 0 rfl rfl rfl rfl (by first | (simp only [cw_len]; done) | (simp only [List.length_append, cw_len]; done)) (by first | (rw [cw_len]; kernel_rfl) | (simp only [List.length_append, cw_len]; kernel_rfl)) (pt_one _ _ _) ?_
  intro w7 st7
  clear st6
  try simp only [Act.put]
  refine plan_w (v := ?_) rfl rfl (fun wx => ?_) ?_
  rotate_left 1
  · (go_simp; with_reducible rfl)
  try simp only [Act.put, List.setIfInBounds_toArray, List.set_cons_zero, List.set_cons_succ]
  refine plan_end ?_
  refine NoPanic.normal ?_
  have hr := st7.at 0 rfl
  have hfr := st7.fr
  clear st7
  go_wp2_with fail
  exact bodyPost_ret (results_st2 rfl rfl hr Try.underlying72 rfl (by first | (rw [cw_len]; kernel_rfl) | (simp only [List.length_append, cw_len]; kernel_rfl)) rfl) rfl ⟨by unfold ptV ptL; rfl, hfr⟩

set_option maxHeartbeats 16000000 in
set_option maxRecDepth 1000000 in
theorem read_bad (m : Md) (gc gp bx by_ : Nat) (w : World) (hok : m.Ok) (hcv : Has w gc (crvL m gp bx by_) 93) (hpm : Has w gp (mdL m) 134) (a : Option Addr) (n c : Nat) (l : List UInt8) (hb : RdB w a n l) (hc : n ≤ c) (h33 : l.length = 33) (q : Nat) (h0 : (bs l)[0]? = some (.int .u8 (q : Int))) (hq0 : ((q : Int) == 0) = false) (hq2 : ((q : Int) != 2) = true) (hq3 : ((q : Int) != 3) = true) :
    Calls Try.prog 42 #[.pointer (some ⟨gc, 0, none⟩), .slice a n c] w fun e w' => e = .returned (.tuple #[ptV m 0 0 0, .bool false]) ∧ Fr Nob w w' := by
  have HOK := Lib.hid hok
  have HCV := Lib.hid hcv
  have HPM := Lib.hid hpm
  clear hok hcv hpm
  have h33n : n = 33 := by have := hb.len; omega
  subst h33n
  obtain ⟨ba, oa, rfl, -⟩ := Rd.at hb (by decide)
  have HB := Lib.hid hb
  have HC := Lib.hid hc
  have HT := Lib.hid (RdB.tail hb c (by decide) hc)
  have H0 := Lib.hid h0
  have HTN := Lib.hid (tlN_lt l h33)
  clear hb hc h33 h0
  have HQ0 := Lib.hid hq0
  have HQ2 := Lib.hid hq2
  have HQ3 := Lib.hid hq3
  clear hq0 hq2 hq3
  have st0 := St.start Nob w
  go_enter Try.func42, Try.ntmps42
  go_wp2_with (with_reducible refine wl_stop (o := ⟨some 4, _, _, _, _, _⟩) ?_)
  refine wl_allocS st0 rfl rfl (z := .agg (List.replicate 12 (.int .u64 0)).toArray) (by kernel_rfl) (cw 4 0 ++ (cw 4 0 ++ cw 4 0)) (by rw [cw_zero]; rfl) ?_
  intro g4 w1 st1
  clear st0
  have hne : (((33 : Nat) : Int) != 33) = false := by rfl
  go_wp2_with (with_reducible refine wl_stop (o := ⟨some 14, _, _, _, _, _⟩) ?_)
  refine wl_cut rfl rfl Try.underlying34 size_u8g rfl 1 33 ⟨_, rfl⟩ rfl (by decide) HC.out ?_
  rw [show (33 : Nat) - 1 = 32 from rfl]
  go_wp2_with fail
  refine (fb_tail _ _ l _ (HT.out.still st1.fr)).mono ?_
  rintro e' w2 ⟨rfl, hf2⟩
  have st2 := st1.keep hf2
  clear st1 hf2
  go_wp2_with (with_reducible refine wl_stop (o := ⟨some 6, _, _, _, _, _⟩) ?_)
  refine wl_allocS st2 rfl rfl (z := .agg #[.int .u64 0, .int .u64 0, .int .u64 0, .int .u64 0]) (by kernel_rfl) (cw 4 0) (by rw [cw_zero]; rfl) ?_
  intro g6 w3 st3
  clear st2
  go_wp2_with (with_reducible refine wl_stop (o := ⟨none, _, _, _, _, _⟩) ?_)
  refine wl_storeS st3 1 rfl rfl rfl rfl rfl (by first | (simp only [cw_len]; done) | (simp only [List.length_append, cw_len]; done)) (by first | (rw [cw_len]; kernel_rfl) | (simp only [List.length_append, cw_len]; kernel_rfl)) (cw_one _ _) ?_
  intro w4 st4
  clear st3
  have hq0 := HQ0.out
  have hq2 := HQ2.out
  have hq3 := HQ3.out
  have hcell := rd_first (HB.out.still st4.fr) _ H0.out
  go_wp2_with fail
  clear hcell
  go_wp2_with fail
  refine wp_region_noPanic ?_
  refine wp_region_planG (fun wx => St Nob w wx [(g4, cw 4 0 ++ (cw 4 0 ++ cw 4 0), 72), (g6, cw 4 (tlN l), 82)]) 22 (.w 0 (.w 1 (.t 2 (.w 3 (.w 4 (.w 5 (.w 6 (.t 7 (.w 8 (.w 9 (.w 10 (.t 11 (.w 12 (.w 13 (.w 14 (.t 15 (.w 16 (.w 17 (.t 18 (.r 19 (.w 20 (.w 21 (.m 22 .nil))))))))))))))))))))))) (by kernel_rfl) (by kernel_rfl) st4.drew (fun _ _ _ _ _ h => h) ?_
  have hd4 := st4.drew
  clear st4
  refine planG_w (v := ?_) rfl rfl (fun wx => ?_) ?_
  rotate_left 1
  · (go_simp; with_reducible rfl)
  try simp only [Act.put, List.setIfInBounds_toArray, List.set_cons_zero, List.set_cons_succ]
  refine planG_w (v := ?_) rfl rfl (fun wx => ?_) ?_
  rotate_left 1
  · (go_simp; with_reducible rfl)
  try simp only [Act.put, List.setIfInBounds_toArray, List.set_cons_zero, List.set_cons_succ]
  refine planG_t (v := ?_) rfl rfl (fun wx hS => ?_) ?_
  rotate_left 1
  · (have hc := (rd_first (HB.out.still (St.fr hS)) _ H0.out); clear hS; go_simp; with_reducible rfl)
  try simp only [Act.put, List.setIfInBounds_toArray, List.set_cons_zero, List.set_cons_succ]
  refine planG_w (v := ?_) rfl rfl (fun wx => ?_) ?_
  rotate_left 1
  · (go_simp; with_reducible rfl)
  try simp only [Act.put, List.setIfInBounds_toArray, List.set_cons_zero, List.set_cons_succ]
  refine planG_w (v := ?_) rfl rfl (fun wx => ?_) ?_
  rotate_left 1
  · (go_simp; with_reducible rfl)
  try simp only [Act.put, List.setIfInBounds_toArray, List.set_cons_zero, List.set_cons_succ]
  refine planG_w (v := ?_) rfl rfl (fun wx => ?_) ?_
  rotate_left 1
  · (go_simp; with_reducible rfl)
  try simp only [Act.put, List.setIfInBounds_toArray, List.set_cons_zero, List.set_cons_succ]
  refine planG_w (v := ?_) rfl rfl (fun wx => ?_) ?_
  rotate_left 1
  · (go_simp; with_reducible rfl)
  try simp only [Act.put, List.setIfInBounds_toArray, List.set_cons_zero, List.set_cons_succ]
  refine planG_t (v := ?_) rfl rfl (fun wx hS => ?_) ?_
  rotate_left 1
  · (have hc := (rd_first (HB.out.still (St.fr hS)) _ H0.out); clear hS; go_simp; with_reducible rfl)
  try simp only [Act.put, List.setIfInBounds_toArray, List.set_cons_zero, List.set_cons_succ]
  refine planG_w (v := ?_) rfl rfl (fun wx => ?_) ?_
  rotate_left 1
  · (go_simp; with_reducible rfl)
  try simp only [Act.put, List.setIfInBounds_toArray, List.set_cons_zero, List.set_cons_succ]
  refine planG_w (v := ?_) rfl rfl (fun wx => ?_) ?_
  rotate_left 1
  · (go_simp; with_reducible rfl)
  try simp only [Act.put, List.setIfInBounds_toArray, List.set_cons_zero, List.set_cons_succ]
  refine planG_w (v := ?_) rfl rfl (fun wx => ?_) ?_
  rotate_left 1
  · (go_simp; with_reducible rfl)
  try simp only [Act.put, List.setIfInBounds_toArray, List.set_cons_zero, List.set_cons_succ]
  refine planG_skipt rfl rfl ?_
  try simp only [Act.put, List.setIfInBounds_toArray, List.set_cons_zero, List.set_cons_succ]
  refine planG_skip rfl rfl ?_
  try simp only [Act.put, List.setIfInBounds_toArray, List.set_cons_zero, List.set_cons_succ]
  refine planG_skip rfl rfl ?_
  try simp only [Act.put, List.setIfInBounds_toArray, List.set_cons_zero, List.set_cons_succ]
  refine planG_skip rfl rfl ?_
  try simp only [Act.put, List.setIfInBounds_toArray, List.set_cons_zero, List.set_cons_succ]
  refine planG_skipt rfl rfl ?_
  try simp only [Act.put, List.setIfInBounds_toArray, List.set_cons_zero, List.set_cons_succ]
  refine planG_skip rfl rfl ?_
  try simp only [Act.put, List.setIfInBounds_toArray, List.set_cons_zero, List.set_cons_succ]
  refine planG_skip rfl rfl ?_
  try simp only [Act.put, List.setIfInBounds_toArray, List.set_cons_zero, List.set_cons_succ]
  refine planG_skipt rfl rfl ?_
  try simp only [Act.put, List.setIfInBounds_toArray, List.set_cons_zero, List.set_cons_succ]
  refine planG_rskip rfl rfl ⟨hd4, ?_⟩
  try simp only [Act.put, List.setIfInBounds_toArray, List.set_cons_zero, List.set_cons_succ]
  refine planG_skip rfl rfl ?_
  try simp only [Act.put, List.setIfInBounds_toArray, List.set_cons_zero, List.set_cons_succ]
  refine planG_w (v := ?_) rfl rfl (fun wx => ?_) ?_
  rotate_left 1
  · (go_simp; with_reducible rfl)
  try simp only [Act.put, List.setIfInBounds_toArray, List.set_cons_zero, List.set_cons_succ]
  refine planG_m rfl rfl ?_
  go_simp
  try simp only [Act.put, List.setIfInBounds_toArray, List.set_cons_zero, List.set_cons_succ]
  refine planG_end ?_
  have st5 := hd4
  clear hd4
  refine NoPanic.normal ?_
  go_wp2_with (with_reducible refine wl_stop (o := ⟨some 48, _, _, _, _, _⟩) ?_)
  refine wl_build0 rfl rfl _ built_P0 ?_
  go_wp2_with (with_reducible refine wl_stop (o := ⟨none, _, _, _, _, _⟩) ?_)
  refine wl_storeS st5 0 rfl rfl rfl rfl rfl (by first | (simp only; done) | (simp only [List.length_append, cw_len]; done)) (by first | (rw [cw_len]; kernel_rfl) | (simp only [List.length_append, cw_len]; kernel_rfl)) (pt_one _ _ _) ?_
  intro w6 st6
  clear st5
  have hr := st6.at 0 rfl
  have hfr := st6.fr
  clear st6
  go_wp2_with fail
  exact bodyPost_ret (results_st2 rfl rfl hr Try.underlying72 rfl (by first | (rw [cw_len]; kernel_rfl) | (simp only [List.length_append, cw_len]; kernel_rfl)) rfl) rfl ⟨by unfold ptV ptL; rw [el_zero]; rfl, hfr⟩

set_option maxHeartbeats 16000000 in
set_option maxRecDepth 1000000 in
theorem read_ge2 (m : Md) (gc gp bx by_ : Nat) (w : World) (hok : m.Ok) (hcv : Has w gc (crvL m gp bx by_) 93) (hpm : Has w gp (mdL m) 134) (a : Option Addr) (n c : Nat) (l : List UInt8) (hb : RdB w a n l) (hc : n ≤ c) (h33 : l.length = 33) (h0 : (bs l)[0]? = some (.int .u8 2)) (hlt : decide (tlN l < m.M) = false) :
    Calls Try.prog 42 #[.pointer (some ⟨gc, 0, none⟩), .slice a n c] w fun e w' => e = .returned (.tuple #[ptV m 0 0 0, .bool false]) ∧ Fr Nob w w' := by
  have HOK := Lib.hid hok
  have HCV := Lib.hid hcv
  have HPM := Lib.hid hpm
  clear hok hcv hpm
  have h33n : n = 33 := by have := hb.len; omega
  subst h33n
  obtain ⟨ba, oa, rfl, -⟩ := Rd.at hb (by decide)
  have HB := Lib.hid hb
  have HC := Lib.hid hc
  have HT := Lib.hid (RdB.tail hb c (by decide) hc)
  have H0 := Lib.hid h0
  have HTN := Lib.hid (tlN_lt l h33)
  clear hb hc h33 h0
  have HDL := Lib.hid hlt
  clear hlt
  have st0 := St.start Nob w
  go_enter Try.func42, Try.ntmps42
  go_wp2_with (with_reducible refine wl_stop (o := ⟨some 4, _, _, _, _, _⟩) ?_)
  refine wl_allocS st0 rfl rfl (z := .agg (List.replicate 12 (.int .u64 0)).toArray) (by kernel_rfl) (cw 4 0 ++ (cw 4 0 ++ cw 4 0)) (by rw [cw_zero]; rfl) ?_
  intro g4 w1 st1
  clear st0
  have hne : (((33 : Nat) : Int) != 33) = false := by rfl
  go_wp2_with (with_reducible refine wl_stop (o := ⟨some 14, _, _, _, _, _⟩) ?_)
  refine wl_cut rfl rfl Try.underlying34 size_u8g rfl 1 33 ⟨_, rfl⟩ rfl (by decide) HC.out ?_
  rw [show (33 : Nat) - 1 = 32 from rfl]
  go_wp2_with fail
  refine (fb_tail _ _ l _ (HT.out.still st1.fr)).mono ?_
  rintro e' w2 ⟨rfl, hf2⟩
  have st2 := st1.keep hf2
  clear st1 hf2
  go_wp2_with (with_reducible refine wl_stop (o := ⟨some 6, _, _, _, _, _⟩) ?_)
  refine wl_allocS st2 rfl rfl (z := .agg #[.int .u64 0, .int .u64 0, .int .u64 0, .int .u64 0]) (by kernel_rfl) (cw 4 0) (by rw [cw_zero]; rfl) ?_
  intro g6 w3 st3
  clear st2
  go_wp2_with (with_reducible refine wl_stop (o := ⟨none, _, _, _, _, _⟩) ?_)
  refine wl_storeS st3 1 rfl rfl rfl rfl rfl (by first | (simp only [cw_len]; done) | (simp only [List.length_append, cw_len]; done)) (by first | (rw [cw_len]; kernel_rfl) | (simp only [List.length_append, cw_len]; kernel_rfl)) (cw_one _ _) ?_
  intro w4 st4
  clear st3
  have hcell := rd_first (HB.out.still st4.fr) _ H0.out
  go_wp2_with fail
  clear hcell
  go_wp2_with fail
  refine wp_region_noPanic ?_
  refine wp_region_planG (fun wx => St Nob w wx [(g4, cw 4 0 ++ (cw 4 0 ++ cw 4 0), 72), (g6, cw 4 (tlN l), 82)]) 22 (.w 0 (.w 1 (.t 2 (.w 3 (.w 4 (.w 5 (.w 6 (.t 7 (.w 8 (.w 9 (.w 10 (.t 11 (.w 12 (.w 13 (.w 14 (.t 15 (.w 16 (.w 17 (.t 18 (.r 19 (.w 20 (.w 21 (.m 22 .nil))))))))))))))))))))))) (by kernel_rfl) (by kernel_rfl) st4.drew (fun _ _ _ _ _ h => h) ?_
  have hd4 := st4.drew
  clear st4
  refine planG_w (v := ?_) rfl rfl (fun wx => ?_) ?_
  rotate_left 1
  · (go_simp; with_reducible rfl)
  try simp only [Act.put, List.setIfInBounds_toArray, List.set_cons_zero, List.set_cons_succ]
  refine planG_w (v := ?_) rfl rfl (fun wx => ?_) ?_
  rotate_left 1
  · (go_simp; with_reducible rfl)
  try simp only [Act.put, List.setIfInBounds_toArray, List.set_cons_zero, List.set_cons_succ]
  refine planG_t (v := ?_) rfl rfl (fun wx hS => ?_) ?_
  rotate_left 1
  · (have hc := (rd_first (HB.out.still (St.fr hS)) _ H0.out); clear hS; go_simp; with_reducible rfl)
  try simp only [Act.put, List.setIfInBounds_toArray, List.set_cons_zero, List.set_cons_succ]
  refine planG_w (v := ?_) rfl rfl (fun wx => ?_) ?_
  rotate_left 1
  · (go_simp; with_reducible rfl)
  try simp only [Act.put, List.setIfInBounds_toArray, List.set_cons_zero, List.set_cons_succ]
  refine planG_w (v := ?_) rfl rfl (fun wx => ?_) ?_
  rotate_left 1
  · (go_simp; with_reducible rfl)
  try simp only [Act.put, List.setIfInBounds_toArray, List.set_cons_zero, List.set_cons_succ]
  refine planG_skip rfl rfl ?_
  try simp only [Act.put, List.setIfInBounds_toArray, List.set_cons_zero, List.set_cons_succ]
  refine planG_skip rfl rfl ?_
  try simp only [Act.put, List.setIfInBounds_toArray, List.set_cons_zero, List.set_cons_succ]
  refine planG_skipt rfl rfl ?_
  try simp only [Act.put, List.setIfInBounds_toArray, List.set_cons_zero, List.set_cons_succ]
  refine planG_skip rfl rfl ?_
  try simp only [Act.put, List.setIfInBounds_toArray, List.set_cons_zero, List.set_cons_succ]
  refine planG_w (v := ?_) rfl rfl (fun wx => ?_) ?_
  rotate_left 1
  · (go_simp; with_reducible rfl)
  try simp only [Act.put, List.setIfInBounds_toArray, List.set_cons_zero, List.set_cons_succ]
  refine planG_w (v := ?_) rfl rfl (fun wx => ?_) ?_
  rotate_left 1
  · (go_simp; with_reducible rfl)
  try simp only [Act.put, List.setIfInBounds_toArray, List.set_cons_zero, List.set_cons_succ]
  refine planG_arr rfl rfl rfl rfl (cw 4 (tlN l)) (fun wx hS => St.rangeL hS 1 rfl 0 _ (by rw [List.drop_zero, List.take_of_length_le (Nat.le_refl _)])) Try.underlying82 rfl (by first | (rw [cw_len]; kernel_rfl) | (simp only [List.length_append, cw_len]; kernel_rfl)) ?_
  try simp only [Act.put, List.setIfInBounds_toArray, List.set_cons_zero, List.set_cons_succ]
  refine planG_w (v := ?_) rfl rfl (fun wx => ?_) ?_
  rotate_left 1
  · (go_simp; with_reducible rfl)
  try simp only [Act.put, List.setIfInBounds_toArray, List.set_cons_zero, List.set_cons_succ]
  refine planG_w (v := ?_) rfl rfl (fun wx => ?_) ?_
  rotate_left 1
  · (go_simp; with_reducible rfl)
  try simp only [Act.put, List.setIfInBounds_toArray, List.set_cons_zero, List.set_cons_succ]
  refine planG_w (v := ?_) rfl rfl (fun wx => ?_) ?_
  rotate_left 1
  · (go_simp; with_reducible rfl)
  try simp only [Act.put, List.setIfInBounds_toArray, List.set_cons_zero, List.set_cons_succ]
  refine planG_t (v := ?_) rfl rfl (fun wx hS => ?_) ?_
  rotate_left 1
  · (have hc := (HCV.out.keep (St.fr hS) id).cell (i := 0) rfl; clear hS; go_simp; with_reducible rfl)
  try simp only [Act.put, List.setIfInBounds_toArray, List.set_cons_zero, List.set_cons_succ]
  refine planG_w (v := ?_) rfl rfl (fun wx => ?_) ?_
  rotate_left 1
  · (go_simp; with_reducible rfl)
  try simp only [Act.put, List.setIfInBounds_toArray, List.set_cons_zero, List.set_cons_succ]
  refine planG_w (v := ?_) rfl rfl (fun wx => ?_) ?_
  rotate_left 1
  · (go_simp; with_reducible rfl)
  try simp only [Act.put, List.setIfInBounds_toArray, List.set_cons_zero, List.set_cons_succ]
  refine planG_arr rfl rfl rfl rfl (cw 4 m.M) (fun wx hS => (HPM.out.keep (St.fr hS) id).range 0 _ (md_M m)) Try.underlying82 rfl (by first | (rw [cw_len]; kernel_rfl) | (simp only [List.length_append, cw_len]; kernel_rfl)) ?_
  try simp only [Act.put, List.setIfInBounds_toArray, List.set_cons_zero, List.set_cons_succ]
  refine planG_r rfl rfl ?_
  go_simp
  refine (MLess_v (tlN l) m.M _ HTN.out HOK.out.lt false HDL.out).mono ?_
  rintro e' w5 ⟨rfl, hf5⟩
  have st5 := hd4.keep hf5
  clear hf5
  clear hd4
  refine ⟨st5, ?_⟩
  try simp only [Act.put, List.setIfInBounds_toArray, List.set_cons_zero, List.set_cons_succ]
  refine planG_w (v := ?_) rfl rfl (fun wx => ?_) ?_
  rotate_left 1
  · (go_simp; with_reducible rfl)
  try simp only [Act.put, List.setIfInBounds_toArray, List.set_cons_zero, List.set_cons_succ]
  refine planG_w (v := ?_) rfl rfl (fun wx => ?_) ?_
  rotate_left 1
  · (go_simp; with_reducible rfl)
  try simp only [Act.put, List.setIfInBounds_toArray, List.set_cons_zero, List.set_cons_succ]
  refine planG_m rfl rfl ?_
  go_simp
  try simp only [Act.put, List.setIfInBounds_toArray, List.set_cons_zero, List.set_cons_succ]
  refine planG_end ?_
  refine NoPanic.normal ?_
  go_wp2_with (with_reducible refine wl_stop (o := ⟨some 48, _, _, _, _, _⟩) ?_)
  refine wl_build0 rfl rfl _ built_P0 ?_
  go_wp2_with (with_reducible refine wl_stop (o := ⟨none, _, _, _, _, _⟩) ?_)
  refine wl_storeS st5 0 rfl rfl rfl rfl rfl (by first | (simp only; done) | (simp only [List.length_append, cw_len]; done)) (by first | (rw [cw_len]; kernel_rfl) | (simp only [List.length_append, cw_len]; kernel_rfl)) (pt_one _ _ _) ?_
  intro w6 st6
  clear st5
  have hr := st6.at 0 rfl
  have hfr := st6.fr
  clear st6
  go_wp2_with fail
  exact bodyPost_ret (results_st2 rfl rfl hr Try.underlying72 rfl (by first | (rw [cw_len]; kernel_rfl) | (simp only [List.length_append, cw_len]; kernel_rfl)) rfl) rfl ⟨by unfold ptV ptL; rw [el_zero]; rfl, hfr⟩

set_option maxHeartbeats 16000000 in
set_option maxRecDepth 1000000 in
theorem read_pt2 (m : Md) (gc gp bx by_ : Nat) (w : World) (hok : m.Ok) (hcv : Has w gc (crvL m gp bx by_) 93) (hpm : Has w gp (mdL m) 134) (a : Option Addr) (n c : Nat) (l : List UInt8) (hb : RdB w a n l) (hc : n ≤ c) (h33 : l.length = 33) (h0 : (bs l)[0]? = some (.int .u8 2)) (hlt : decide (tlN l < m.M) = true) (r : Bool) (hr : rtOk m.M (crvN (tlN l)) = r) :
    Calls Try.prog 42 #[.pointer (some ⟨gc, 0, none⟩), .slice a n c] w fun e w' => e = .returned (.tuple #[ptV m (tlN l) (atY m.M (tlN l)) 1, .bool r]) ∧ Fr Nob w w' := by
  have HOK := Lib.hid hok
  have HCV := Lib.hid hcv
  have HPM := Lib.hid hpm
  clear hok hcv hpm
  have h33n : n = 33 := by have := hb.len; omega
  subst h33n
  obtain ⟨ba, oa, rfl, -⟩ := Rd.at hb (by decide)
  have HB := Lib.hid hb
  have HC := Lib.hid hc
  have HT := Lib.hid (RdB.tail hb c (by decide) hc)
  have H0 := Lib.hid h0
  have HTN := Lib.hid (tlN_lt l h33)
  clear hb hc h33 h0
  have HDL := Lib.hid hlt
  clear hlt
  have HR := Lib.hid hr
  clear hr
  have st0 := St.start Nob w
  go_enter Try.func42, Try.ntmps42
  go_wp2_with (with_reducible refine wl_stop (o := ⟨some 4, _, _, _, _, _⟩) ?_)
  refine wl_allocS st0 rfl rfl (z := .agg (List.replicate 12 (.int .u64 0)).toArray) (by kernel_rfl) (cw 4 0 ++ (cw 4 0 ++ cw 4 0)) (by rw [cw_zero]; rfl) ?_
  intro g4 w1 st1
  clear st0
  have hne : (((33 : Nat) : Int) != 33) = false := by rfl
  go_wp2_with (with_reducible refine wl_stop (o := ⟨some 14, _, _, _, _, _⟩) ?_)
  refine wl_cut rfl rfl Try.underlying34 size_u8g rfl 1 33 ⟨_, rfl⟩ rfl (by decide) HC.out ?_
  rw [show (33 : Nat) - 1 = 32 from rfl]
  go_wp2_with fail
  refine (fb_tail _ _ l _ (HT.out.still st1.fr)).mono ?_
  rintro e' w2 ⟨rfl, hf2⟩
  have st2 := st1.keep hf2
  clear st1 hf2
  go_wp2_with (with_reducible refine wl_stop (o := ⟨some 6, _, _, _, _, _⟩) ?_)
  refine wl_allocS st2 rfl rfl (z := .agg #[.int .u64 0, .int .u64 0, .int .u64 0, .int .u64 0]) (by kernel_rfl) (cw 4 0) (by rw [cw_zero]; rfl) ?_
  intro g6 w3 st3
  clear st2
  go_wp2_with (with_reducible refine wl_stop (o := ⟨none, _, _, _, _, _⟩) ?_)
  refine wl_storeS st3 1 rfl rfl rfl rfl rfl (by first | (simp only [cw_len]; done) | (simp only [List.length_append, cw_len]; done)) (by first | (rw [cw_len]; kernel_rfl) | (simp only [List.length_append, cw_len]; kernel_rfl)) (cw_one _ _) ?_
  intro w4 st4
  clear st3
  have hcell := rd_first (HB.out.still st4.fr) _ H0.out
  go_wp2_with fail
  clear hcell
  go_wp2_with fail
  refine wp_region_noPanic ?_
  refine wp_region_planG (fun wx => St Nob w wx [(g4, cw 4 0 ++ (cw 4 0 ++ cw 4 0), 72), (g6, cw 4 (tlN l), 82)]) 22 (.w 0 (.w 1 (.t 2 (.w 3 (.w 4 (.w 5 (.w 6 (.t 7 (.w 8 (.w 9 (.w 10 (.t 11 (.w 12 (.w 13 (.w 14 (.t 15 (.w 16 (.w 17 (.t 18 (.r 19 (.w 20 (.w 21 (.m 22 .nil))))))))))))))))))))))) (by kernel_rfl) (by kernel_rfl) st4.drew (fun _ _ _ _ _ h => h) ?_
  have hd4 := st4.drew
  clear st4
  refine planG_w (v := ?_) rfl rfl (fun wx => ?_) ?_
  rotate_left 1
  · (go_simp; with_reducible rfl)
  try simp only [Act.put, List.setIfInBounds_toArray, List.set_cons_zero, List.set_cons_succ]
  refine planG_w (v := ?_) rfl rfl (fun wx => ?_) ?_
  rotate_left 1
  · (go_simp; with_reducible rfl)
  try simp only [Act.put, List.setIfInBounds_toArray, List.set_cons_zero, List.set_cons_succ]
  refine planG_t (v := ?_) rfl rfl (fun wx hS => ?_) ?_
  rotate_left 1
  · (have hc := (rd_first (HB.out.still (St.fr hS)) _ H0.out); clear hS; go_simp; with_reducible rfl)
  try simp only [Act.put, List.setIfInBounds_toArray, List.set_cons_zero, List.set_cons_succ]
  refine planG_w (v := ?_) rfl rfl (fun wx => ?_) ?_
  rotate_left 1
  · (go_simp; with_reducible rfl)
  try simp only [Act.put, List.setIfInBounds_toArray, List.set_cons_zero, List.set_cons_succ]
  refine planG_w (v := ?_) rfl rfl (fun wx => ?_) ?_
  rotate_left 1
  · (go_simp; with_reducible rfl)
  try simp only [Act.put, List.setIfInBounds_toArray, List.set_cons_zero, List.set_cons_succ]
  refine planG_skip rfl rfl ?_
  try simp only [Act.put, List.setIfInBounds_toArray, List.set_cons_zero, List.set_cons_succ]
  refine planG_skip rfl rfl ?_
  try simp only [Act.put, List.setIfInBounds_toArray, List.set_cons_zero, List.set_cons_succ]
  refine planG_skipt rfl rfl ?_
  try simp only [Act.put, List.setIfInBounds_toArray, List.set_cons_zero, List.set_cons_succ]
  refine planG_skip rfl rfl ?_
  try simp only [Act.put, List.setIfInBounds_toArray, List.set_cons_zero, List.set_cons_succ]
  refine planG_w (v := ?_) rfl rfl (fun wx => ?_) ?_
  rotate_left 1
  · (go_simp; with_reducible rfl)
  try simp only [Act.put, List.setIfInBounds_toArray, List.set_cons_zero, List.set_cons_succ]
  refine planG_w (v := ?_) rfl rfl (fun wx => ?_) ?_
  rotate_left 1
  · (go_simp; with_reducible rfl)
  try simp only [Act.put, List.setIfInBounds_toArray, List.set_cons_zero, List.set_cons_succ]
  refine planG_arr rfl rfl rfl rfl (cw 4 (tlN l)) (fun wx hS => St.rangeL hS 1 rfl 0 _ (by rw [List.drop_zero, List.take_of_length_le (Nat.le_refl _)])) Try.underlying82 rfl (by first | (rw [cw_len]; kernel_rfl) | (simp only [List.length_append, cw_len]; kernel_rfl)) ?_
  try simp only [Act.put, List.setIfInBounds_toArray, List.set_cons_zero, List.set_cons_succ]
  refine planG_w (v := ?_) rfl rfl (fun wx => ?_) ?_
  rotate_left 1
  · (go_simp; with_reducible rfl)
  try simp only [Act.put, List.setIfInBounds_toArray, List.set_cons_zero, List.set_cons_succ]
  refine planG_w (v := ?_) rfl rfl (fun wx => ?_) ?_
  rotate_left 1
  · (go_simp; with_reducible rfl)
  try simp only [Act.put, List.setIfInBounds_toArray, List.set_cons_zero, List.set_cons_succ]
  refine planG_w (v := ?_) rfl rfl (fun wx => ?_) ?_
  rotate_left 1
  · (go_simp; with_reducible rfl)
  try simp only [Act.put, List.setIfInBounds_toArray, List.set_cons_zero, List.set_cons_succ]
  refine planG_t (v := ?_) rfl rfl (fun wx hS => ?_) ?_
  rotate_left 1
  · (have hc := (HCV.out.keep (St.fr hS) id).cell (i := 0) rfl; clear hS; go_simp; with_reducible rfl)
  try simp only [Act.put, List.setIfInBounds_toArray, List.set_cons_zero, List.set_cons_succ]
  refine planG_w (v := ?_) rfl rfl (fun wx => ?_) ?_
  rotate_left 1
  · (go_simp; with_reducible rfl)
  try simp only [Act.put, List.setIfInBounds_toArray, List.set_cons_zero, List.set_cons_succ]
  refine planG_w (v := ?_) rfl rfl (fun wx => ?_) ?_
  rotate_left 1
  · (go_simp; with_reducible rfl)
  try simp only [Act.put, List.setIfInBounds_toArray, List.set_cons_zero, List.set_cons_succ]
  refine planG_arr rfl rfl rfl rfl (cw 4 m.M) (fun wx hS => (HPM.out.keep (St.fr hS) id).range 0 _ (md_M m)) Try.underlying82 rfl (by first | (rw [cw_len]; kernel_rfl) | (simp only [List.length_append, cw_len]; kernel_rfl)) ?_
  try simp only [Act.put, List.setIfInBounds_toArray, List.set_cons_zero, List.set_cons_succ]
  refine planG_r rfl rfl ?_
  go_simp
  refine (MLess_v (tlN l) m.M _ HTN.out HOK.out.lt true HDL.out).mono ?_
  rintro e' w5 ⟨rfl, hf5⟩
  have st5 := hd4.keep hf5
  clear hf5
  clear hd4
  refine ⟨st5, ?_⟩
  try simp only [Act.put, List.setIfInBounds_toArray, List.set_cons_zero, List.set_cons_succ]
  refine planG_w (v := ?_) rfl rfl (fun wx => ?_) ?_
  rotate_left 1
  · (go_simp; with_reducible rfl)
  try simp only [Act.put, List.setIfInBounds_toArray, List.set_cons_zero, List.set_cons_succ]
  refine planG_w (v := ?_) rfl rfl (fun wx => ?_) ?_
  rotate_left 1
  · (go_simp; with_reducible rfl)
  try simp only [Act.put, List.setIfInBounds_toArray, List.set_cons_zero, List.set_cons_succ]
  refine planG_m rfl rfl ?_
  go_simp
  try simp only [Act.put, List.setIfInBounds_toArray, List.set_cons_zero, List.set_cons_succ]
  refine planG_end ?_
  refine NoPanic.normal ?_
  go_wp2_with fail
  refine wp_region_noPanic ?_
  refine wp_region_plan (fun wx => St Nob w wx [(g4, cw 4 0 ++ (cw 4 0 ++ cw 4 0), 72), (g6, cw 4 (tlN l), 82)]) 13 (.w 0 (.w 1 (.w 2 (.w 3 (.t 4 (.t 5 (.b 6 11 (.b 7 11 (.w 8 (.w 9 (.w 10 (.r 11 (.r 12 (.m 13 .nil)))))) (.r 7 (.w 8 (.w 9 (.w 10 (.r 12 (.m 13 .nil))))))) (.r 6 (.r 7 (.w 8 (.w 9 (.w 10 (.r 12 (.m 13 .nil)))))))))))))) (by kernel_rfl) (by kernel_rfl) st5.drew (fun _ _ _ _ _ h => h) ?_
  have hd5 := st5.drew
  clear st5
  refine plan_w (v := ?_) rfl rfl (fun wx => ?_) ?_
  rotate_left 1
  · (go_simp; with_reducible rfl)
  try simp only [Act.put, List.setIfInBounds_toArray, List.set_cons_zero, List.set_cons_succ]
  refine plan_w (v := ?_) rfl rfl (fun wx => ?_) ?_
  rotate_left 1
  · (go_simp; with_reducible rfl)
  try simp only [Act.put, List.setIfInBounds_toArray, List.set_cons_zero, List.set_cons_succ]
  refine plan_w (v := ?_) rfl rfl (fun wx => ?_) ?_
  rotate_left 1
  · (go_simp; with_reducible rfl)
  try simp only [Act.put, List.setIfInBounds_toArray, List.set_cons_zero, List.set_cons_succ]
  refine plan_w (v := ?_) rfl rfl (fun wx => ?_) ?_
  rotate_left 1
  · (go_simp; with_reducible rfl)
  try simp only [Act.put, List.setIfInBounds_toArray, List.set_cons_zero, List.set_cons_succ]
  refine plan_t (v := ?_) rfl rfl (fun wx hS => ?_) ?_
  rotate_left 1
  · (have hc := (HCV.out.keep (St.fr hS) id).cell (i := 0) rfl; clear hS; go_simp; with_reducible rfl)
  try simp only [Act.put, List.setIfInBounds_toArray, List.set_cons_zero, List.set_cons_succ]
  refine plan_arr rfl rfl rfl rfl (cw 4 (tlN l)) (fun wx hS => St.rangeL hS 1 rfl 0 _ (by rw [List.drop_zero, List.take_of_length_le (Nat.le_refl _)])) Try.underlying82 rfl (by first | (rw [cw_len]; kernel_rfl) | (simp only [List.length_append, cw_len]; kernel_rfl)) ?_
  try simp only [Act.put, List.setIfInBounds_toArray, List.set_cons_zero, List.set_cons_succ]
  refine plan_key1 (C := fun g7 wz => St Nob w wz [(g4, cw 4 0 ++ (cw 4 0 ++ cw 4 0), 72), (g6, cw 4 (tlN l), 82), (g7, cw 4 (elN m (tlN l)) ++ (cw 4 (elN m (atY m.M (tlN l))) ++ cw 4 (elN m 1)), 72)]) (F := ?_) (fun key => ?_) ?_
  rotate_left 1
  · skip
    refine plan_b0 rfl rfl rfl rfl ?_ ?_
    · skip
      go_simp
      refine (MTo_any m gp _ HOK.out (HPM.out.keep hd5.fr id) (tlN l) HTN.out).mono ?_
      rintro e' w6 ⟨rfl, hf6⟩
      have st6 := hd5.keep hf6
      clear hf6
      refine ⟨st6, ?_⟩
      try simp only [Act.put, List.setIfInBounds_toArray, List.set_cons_zero, List.set_cons_succ]
      refine plan_b0 rfl rfl rfl rfl ?_ ?_
      · skip
        go_simp
        refine (at_u m gc gp bx by_ _ HOK.out (HCV.out.keep st6.fr id) (HPM.out.keep st6.fr id) (tlN l) r HR.out).mono ?_
        rintro e' w7 ⟨rfl, hf7⟩
        have st7 := st6.keep hf7
        clear hf7
        refine ⟨st7, ?_⟩
        try simp only [Act.put, List.setIfInBounds_toArray, List.set_cons_zero, List.set_cons_succ]
        refine plan_w (v := ?_) rfl rfl (fun wx => ?_) ?_
        rotate_left 1
        · (go_simp; with_reducible rfl)
        try simp only [Act.put, List.setIfInBounds_toArray, List.set_cons_zero, List.set_cons_succ]
        refine plan_w (v := ?_) rfl rfl (fun wx => ?_) ?_
        rotate_left 1
        · (go_simp; with_reducible rfl)
        try simp only [Act.put, List.setIfInBounds_toArray, List.set_cons_zero, List.set_cons_succ]
        refine plan_w (v := ?_) rfl rfl (fun wx => ?_) ?_
        rotate_left 1
        · (go_simp; with_reducible rfl)
        try simp only [Act.put, List.setIfInBounds_toArray, List.set_cons_zero, List.set_cons_succ]
        refine plan_r rfl rfl ?_
        refine wp_allocS st7 rfl (z := .agg #[.int .u64 0, .int .u64 0, .int .u64 0, .int .u64 0, .int .u64 0, .int .u64 0, .int .u64 0, .int .u64 0, .int .u64 0, .int .u64 0, .int .u64 0, .int .u64 0]) (by kernel_rfl) (cw 12 0) (by rw [cw_zero]; rfl) ?_
        intro g7 w8 st8
        refine ⟨St.less st8 (by simp), ?_⟩
        try simp only [Act.put, List.setIfInBounds_toArray, List.set_cons_zero, List.set_cons_succ]
        refine plan_r rfl rfl ?_
        refine wp_storeS st8 2 rfl rfl rfl rfl (by first | (simp only [cw_len]; done) | (simp only [List.length_append, cw_len]; done)) (by first | (rw [cw_len]; kernel_rfl) | (simp only [List.length_append, cw_len]; kernel_rfl)) (pt_one _ _ _) ?_
        intro w9 st9
        refine ⟨St.less st9 (by simp), ?_⟩
        try simp only [Act.put]
        refine plan_m rfl rfl ?_
        go_simp
        try simp only [Act.put, List.setIfInBounds_toArray, List.set_cons_zero, List.set_cons_succ]
        refine plan_end ?_
        exact key g7 _ st9
      · skip
        refine wp_allocS st6 rfl (z := .agg #[.int .u64 0, .int .u64 0, .int .u64 0, .int .u64 0, .int .u64 0, .int .u64 0, .int .u64 0, .int .u64 0, .int .u64 0, .int .u64 0, .int .u64 0, .int .u64 0]) (by kernel_rfl) (cw 12 0) (by rw [cw_zero]; rfl) ?_
        intro g7 w10 st10
        refine ⟨St.less st10 (by simp), ?_⟩
        try simp only [Act.put, List.setIfInBounds_toArray, List.set_cons_zero, List.set_cons_succ]
        refine plan_r rfl rfl ?_
        go_simp
        refine (at_u m gc gp bx by_ _ HOK.out (HCV.out.keep st10.fr id) (HPM.out.keep st10.fr id) (tlN l) r HR.out).mono ?_
        rintro e' w11 ⟨rfl, hf11⟩
        have st11 := st10.keep hf11
        clear hf11
        refine ⟨St.less st11 (by simp), ?_⟩
        try simp only [Act.put, List.setIfInBounds_toArray, List.set_cons_zero, List.set_cons_succ]
        refine plan_w (v := ?_) rfl rfl (fun wx => ?_) ?_
        rotate_left 1
        · (go_simp; with_reducible rfl)
        try simp only [Act.put, List.setIfInBounds_toArray, List.set_cons_zero, List.set_cons_succ]
        refine plan_w (v := ?_) rfl rfl (fun wx => ?_) ?_
        rotate_left 1
        · (go_simp; with_reducible rfl)
        try simp only [Act.put, List.setIfInBounds_toArray, List.set_cons_zero, List.set_cons_succ]
        refine plan_w (v := ?_) rfl rfl (fun wx => ?_) ?_
        rotate_left 1
        · (go_simp; with_reducible rfl)
        try simp only [Act.put, List.setIfInBounds_toArray, List.set_cons_zero, List.set_cons_succ]
        refine plan_r rfl rfl ?_
        refine wp_storeS st11 2 rfl rfl rfl rfl (by first | (simp only [cw_len]; done) | (simp only [List.length_append, cw_len]; done)) (by first | (rw [cw_len]; kernel_rfl) | (simp only [List.length_append, cw_len]; kernel_rfl)) (pt_one _ _ _) ?_
        intro w12 st12
        refine ⟨St.less st12 (by simp), ?_⟩
        try simp only [Act.put]
        refine plan_m rfl rfl ?_
        go_simp
        try simp only [Act.put, List.setIfInBounds_toArray, List.set_cons_zero, List.set_cons_succ]
        refine plan_end ?_
        exact key g7 _ st12
    · skip
      refine wp_allocS hd5 rfl (z := .agg #[.int .u64 0, .int .u64 0, .int .u64 0, .int .u64 0, .int .u64 0, .int .u64 0, .int .u64 0, .int .u64 0, .int .u64 0, .int .u64 0, .int .u64 0, .int .u64 0]) (by kernel_rfl) (cw 12 0) (by rw [cw_zero]; rfl) ?_
      intro g7 w13 st13
      refine ⟨St.less st13 (by simp), ?_⟩
      try simp only [Act.put, List.setIfInBounds_toArray, List.set_cons_zero, List.set_cons_succ]
      refine plan_r rfl rfl ?_
      go_simp
      refine (MTo_any m gp _ HOK.out (HPM.out.keep st13.fr id) (tlN l) HTN.out).mono ?_
      rintro e' w14 ⟨rfl, hf14⟩
      have st14 := st13.keep hf14
      clear hf14
      refine ⟨St.less st14 (by simp), ?_⟩
      try simp only [Act.put, List.setIfInBounds_toArray, List.set_cons_zero, List.set_cons_succ]
      refine plan_r rfl rfl ?_
      go_simp
      refine (at_u m gc gp bx by_ _ HOK.out (HCV.out.keep st14.fr id) (HPM.out.keep st14.fr id) (tlN l) r HR.out).mono ?_
      rintro e' w15 ⟨rfl, hf15⟩
      have st15 := st14.keep hf15
      clear hf15
      refine ⟨St.less st15 (by simp), ?_⟩
      try simp only [Act.put, List.setIfInBounds_toArray, List.set_cons_zero, List.set_cons_succ]
      refine plan_w (v := ?_) rfl rfl (fun wx => ?_) ?_
      rotate_left 1
      · (go_simp; with_reducible rfl)
      try simp only [Act.put, List.setIfInBounds_toArray, List.set_cons_zero, List.set_cons_succ]
      refine plan_w (v := ?_) rfl rfl (fun wx => ?_) ?_
      rotate_left 1
      · (go_simp; with_reducible rfl)
      try simp only [Act.put, List.setIfInBounds_toArray, List.set_cons_zero, List.set_cons_succ]
      refine plan_w (v := ?_) rfl rfl (fun wx => ?_) ?_
      rotate_left 1
      · (go_simp; with_reducible rfl)
      try simp only [Act.put, List.setIfInBounds_toArray, List.set_cons_zero, List.set_cons_succ]
      refine plan_r rfl rfl ?_
      refine wp_storeS st15 2 rfl rfl rfl rfl (by first | (simp only [cw_len]; done) | (simp only [List.length_append, cw_len]; done)) (by first | (rw [cw_len]; kernel_rfl) | (simp only [List.length_append, cw_len]; kernel_rfl)) (pt_one _ _ _) ?_
      intro w16 st16
      refine ⟨St.less st16 (by simp), ?_⟩
      try simp only [Act.put]
      refine plan_m rfl rfl ?_
      go_simp
      try simp only [Act.put, List.setIfInBounds_toArray, List.set_cons_zero, List.set_cons_succ]
      refine plan_end ?_
      exact key g7 _ st16
  intro g7 w17 st17
  have st17 : St Nob w w17 [(g4, cw 4 0 ++ (cw 4 0 ++ cw 4 0), 72), (g6, cw 4 (tlN l), 82), (g7, cw 4 (elN m (tlN l)) ++ (cw 4 (elN m (atY m.M (tlN l))) ++ cw 4 (elN m 1)), 72)] := st17
  clear hd5
  refine NoPanic.normal ?_
  have hcell := rd_first (HB.out.still st17.fr) _ H0.out
  go_wp2_with (with_reducible refine wl_stop (o := ⟨some 67, _, _, _, _, _⟩) ?_)
  refine wl_loadSt st17 2 rfl rfl rfl Try.underlying72 rfl rfl (by first | (rw [cw_len]; kernel_rfl) | (simp only [List.length_append, cw_len]; kernel_rfl)) ?_
  go_wp2_with (with_reducible refine wl_stop (o := ⟨none, _, _, _, _, _⟩) ?_)
  refine wl_storeS st17 0 rfl rfl rfl rfl rfl (by first | (simp only [cw_len]; done) | (simp only [List.length_append, cw_len]; done)) (by first | (rw [cw_len]; kernel_rfl) | (simp only [List.length_append, cw_len]; kernel_rfl)) (pt_one _ _ _) ?_
  intro w18 st18
  clear st17
  have hr := st18.at 0 rfl
  have hfr := st18.fr
  clear st18
  go_wp2_with fail
  exact bodyPost_ret (results_st2 rfl rfl hr Try.underlying72 rfl (by first | (rw [cw_len]; kernel_rfl) | (simp only [List.length_append, cw_len]; kernel_rfl)) rfl) rfl ⟨by unfold ptV ptL; rfl, hfr⟩

set_option maxHeartbeats 16000000 in
set_option maxRecDepth 1000000 in
theorem read_ge3 (m : Md) (gc gp bx by_ : Nat) (w : World) (hok : m.Ok) (hcv : Has w gc (crvL m gp bx by_) 93) (hpm : Has w gp (mdL m) 134) (a : Option Addr) (n c : Nat) (l : List UInt8) (hb : RdB w a n l) (hc : n ≤ c) (h33 : l.length = 33) (h0 : (bs l)[0]? = some (.int .u8 3)) (hlt : decide (tlN l < m.M) = false) :
    Calls Try.prog 42 #[.pointer (some ⟨gc, 0, none⟩), .slice a n c] w fun e w' => e = .returned (.tuple #[ptV m 0 0 0, .bool false]) ∧ Fr Nob w w' := by
  have HOK := Lib.hid hok
  have HCV := Lib.hid hcv
  have HPM := Lib.hid hpm
  clear hok hcv hpm
  have h33n : n = 33 := by have := hb.len; omega
  subst h33n
  obtain ⟨ba, oa, rfl, -⟩ := Rd.at hb (by decide)
  have HB := Lib.hid hb
  have HC := Lib.hid hc
  have HT := Lib.hid (RdB.tail hb c (by decide) hc)
  have H0 := Lib.hid h0
  have HTN := Lib.hid (tlN_lt l h33)
  clear hb hc h33 h0
  have HDL := Lib.hid hlt
  clear hlt
  have st0 := St.start Nob w
  go_enter Try.func42, Try.ntmps42
  go_wp2_with (with_reducible refine wl_stop (o := ⟨some 4, _, _, _, _, _⟩) ?_)
  refine wl_allocS st0 rfl rfl (z := .agg (List.replicate 12 (.int .u64 0)).toArray) (by kernel_rfl) (cw 4 0 ++ (cw 4 0 ++ cw 4 0)) (by rw [cw_zero]; rfl) ?_
  intro g4 w1 st1
  clear st0
  have hne : (((33 : Nat) : Int) != 33) = false := by rfl
  go_wp2_with (with_reducible refine wl_stop (o := ⟨some 14, _, _, _, _, _⟩) ?_)
  refine wl_cut rfl rfl Try.underlying34 size_u8g rfl 1 33 ⟨_, rfl⟩ rfl (by decide) HC.out ?_
  rw [show (33 : Nat) - 1 = 32 from rfl]
  go_wp2_with fail
  refine (fb_tail _ _ l _ (HT.out.still st1.fr)).mono ?_
  rintro e' w2 ⟨rfl, hf2⟩
  have st2 := st1.keep hf2
  clear st1 hf2
  go_wp2_with (with_reducible refine wl_stop (o := ⟨some 6, _, _, _, _, _⟩) ?_)
  refine wl_allocS st2 rfl rfl (z := .agg #[.int .u64 0, .int .u64 0, .int .u64 0, .int .u64 0]) (by kernel_rfl) (cw 4 0) (by rw [cw_zero]; rfl) ?_
  intro g6 w3 st3
  clear st2
  go_wp2_with (with_reducible refine wl_stop (o := ⟨none, _, _, _, _, _⟩) ?_)
  refine wl_storeS st3 1 rfl rfl rfl rfl rfl (by first | (simp only [cw_len]; done) | (simp only [List.length_append, cw_len]; done)) (by first | (rw [cw_len]; kernel_rfl) | (simp only [List.length_append, cw_len]; kernel_rfl)) (cw_one _ _) ?_
  intro w4 st4
  clear st3
  have hcell := rd_first (HB.out.still st4.fr) _ H0.out
  go_wp2_with fail
  clear hcell
  go_wp2_with fail
  refine wp_region_noPanic ?_
  refine wp_region_planG (fun wx => St Nob w wx [(g4, cw 4 0 ++ (cw 4 0 ++ cw 4 0), 72), (g6, cw 4 (tlN l), 82)]) 22 (.w 0 (.w 1 (.t 2 (.w 3 (.w 4 (.w 5 (.w 6 (.t 7 (.w 8 (.w 9 (.w 10 (.t 11 (.w 12 (.w 13 (.w 14 (.t 15 (.w 16 (.w 17 (.t 18 (.r 19 (.w 20 (.w 21 (.m 22 .nil))))))))))))))))))))))) (by kernel_rfl) (by kernel_rfl) st4.drew (fun _ _ _ _ _ h => h) ?_
  have hd4 := st4.drew
  clear st4
  refine planG_w (v := ?_) rfl rfl (fun wx => ?_) ?_
  rotate_left 1
  · (go_simp; with_reducible rfl)
  try simp only [Act.put, List.setIfInBounds_toArray, List.set_cons_zero, List.set_cons_succ]
  refine planG_w (v := ?_) rfl rfl (fun wx => ?_) ?_
  rotate_left 1
  · (go_simp; with_reducible rfl)
  try simp only [Act.put, List.setIfInBounds_toArray, List.set_cons_zero, List.set_cons_succ]
  refine planG_t (v := ?_) rfl rfl (fun wx hS => ?_) ?_
  rotate_left 1
  · (have hc := (rd_first (HB.out.still (St.fr hS)) _ H0.out); clear hS; go_simp; with_reducible rfl)
  try simp only [Act.put, List.setIfInBounds_toArray, List.set_cons_zero, List.set_cons_succ]
  refine planG_w (v := ?_) rfl rfl (fun wx => ?_) ?_
  rotate_left 1
  · (go_simp; with_reducible rfl)
  try simp only [Act.put, List.setIfInBounds_toArray, List.set_cons_zero, List.set_cons_succ]
  refine planG_w (v := ?_) rfl rfl (fun wx => ?_) ?_
  rotate_left 1
  · (go_simp; with_reducible rfl)
  try simp only [Act.put, List.setIfInBounds_toArray, List.set_cons_zero, List.set_cons_succ]
  refine planG_w (v := ?_) rfl rfl (fun wx => ?_) ?_
  rotate_left 1
  · (go_simp; with_reducible rfl)
  try simp only [Act.put, List.setIfInBounds_toArray, List.set_cons_zero, List.set_cons_succ]
  refine planG_w (v := ?_) rfl rfl (fun wx => ?_) ?_
  rotate_left 1
  · (go_simp; with_reducible rfl)
  try simp only [Act.put, List.setIfInBounds_toArray, List.set_cons_zero, List.set_cons_succ]
  refine planG_t (v := ?_) rfl rfl (fun wx hS => ?_) ?_
  rotate_left 1
  · (have hc := (rd_first (HB.out.still (St.fr hS)) _ H0.out); clear hS; go_simp; with_reducible rfl)
  try simp only [Act.put, List.setIfInBounds_toArray, List.set_cons_zero, List.set_cons_succ]
  refine planG_w (v := ?_) rfl rfl (fun wx => ?_) ?_
  rotate_left 1
  · (go_simp; with_reducible rfl)
  try simp only [Act.put, List.setIfInBounds_toArray, List.set_cons_zero, List.set_cons_succ]
  refine planG_w (v := ?_) rfl rfl (fun wx => ?_) ?_
  rotate_left 1
  · (go_simp; with_reducible rfl)
  try simp only [Act.put, List.setIfInBounds_toArray, List.set_cons_zero, List.set_cons_succ]
  refine planG_w (v := ?_) rfl rfl (fun wx => ?_) ?_
  rotate_left 1
  · (go_simp; with_reducible rfl)
  try simp only [Act.put, List.setIfInBounds_toArray, List.set_cons_zero, List.set_cons_succ]
  refine planG_arr rfl rfl rfl rfl (cw 4 (tlN l)) (fun wx hS => St.rangeL hS 1 rfl 0 _ (by rw [List.drop_zero, List.take_of_length_le (Nat.le_refl _)])) Try.underlying82 rfl (by first | (rw [cw_len]; kernel_rfl) | (simp only [List.length_append, cw_len]; kernel_rfl)) ?_
  try simp only [Act.put, List.setIfInBounds_toArray, List.set_cons_zero, List.set_cons_succ]
  refine planG_w (v := ?_) rfl rfl (fun wx => ?_) ?_
  rotate_left 1
  · (go_simp; with_reducible rfl)
  try simp only [Act.put, List.setIfInBounds_toArray, List.set_cons_zero, List.set_cons_succ]
  refine planG_w (v := ?_) rfl rfl (fun wx => ?_) ?_
  rotate_left 1
  · (go_simp; with_reducible rfl)
  try simp only [Act.put, List.setIfInBounds_toArray, List.set_cons_zero, List.set_cons_succ]
  refine planG_w (v := ?_) rfl rfl (fun wx => ?_) ?_
  rotate_left 1
  · (go_simp; with_reducible rfl)
  try simp only [Act.put, List.setIfInBounds_toArray, List.set_cons_zero, List.set_cons_succ]
  refine planG_t (v := ?_) rfl rfl (fun wx hS => ?_) ?_
  rotate_left 1
  · (have hc := (HCV.out.keep (St.fr hS) id).cell (i := 0) rfl; clear hS; go_simp; with_reducible rfl)
  try simp only [Act.put, List.setIfInBounds_toArray, List.set_cons_zero, List.set_cons_succ]
  refine planG_w (v := ?_) rfl rfl (fun wx => ?_) ?_
  rotate_left 1
  · (go_simp; with_reducible rfl)
  try simp only [Act.put, List.setIfInBounds_toArray, List.set_cons_zero, List.set_cons_succ]
  refine planG_w (v := ?_) rfl rfl (fun wx => ?_) ?_
  rotate_left 1
  · (go_simp; with_reducible rfl)
  try simp only [Act.put, List.setIfInBounds_toArray, List.set_cons_zero, List.set_cons_succ]
  refine planG_arr rfl rfl rfl rfl (cw 4 m.M) (fun wx hS => (HPM.out.keep (St.fr hS) id).range 0 _ (md_M m)) Try.underlying82 rfl (by first | (rw [cw_len]; kernel_rfl) | (simp only [List.length_append, cw_len]; kernel_rfl)) ?_
  try simp only [Act.put, List.setIfInBounds_toArray, List.set_cons_zero, List.set_cons_succ]
  refine planG_r rfl rfl ?_
  go_simp
  refine (MLess_v (tlN l) m.M _ HTN.out HOK.out.lt false HDL.out).mono ?_
  rintro e' w5 ⟨rfl, hf5⟩
  have st5 := hd4.keep hf5
  clear hf5
  clear hd4
  refine ⟨st5, ?_⟩
  try simp only [Act.put, List.setIfInBounds_toArray, List.set_cons_zero, List.set_cons_succ]
  refine planG_w (v := ?_) rfl rfl (fun wx => ?_) ?_
  rotate_left 1
  · (go_simp; with_reducible rfl)
  try simp only [Act.put, List.setIfInBounds_toArray, List.set_cons_zero, List.set_cons_succ]
  refine planG_w (v := ?_) rfl rfl (fun wx => ?_) ?_
  rotate_left 1
  · (go_simp; with_reducible rfl)
  try simp only [Act.put, List.setIfInBounds_toArray, List.set_cons_zero, List.set_cons_succ]
  refine planG_m rfl rfl ?_
  go_simp
  try simp only [Act.put, List.setIfInBounds_toArray, List.set_cons_zero, List.set_cons_succ]
  refine planG_end ?_
  refine NoPanic.normal ?_
  go_wp2_with (with_reducible refine wl_stop (o := ⟨some 48, _, _, _, _, _⟩) ?_)
  refine wl_build0 rfl rfl _ built_P0 ?_
  go_wp2_with (with_reducible refine wl_stop (o := ⟨none, _, _, _, _, _⟩) ?_)
  refine wl_storeS st5 0 rfl rfl rfl rfl rfl (by first | (simp only; done) | (simp only [List.length_append, cw_len]; done)) (by first | (rw [cw_len]; kernel_rfl) | (simp only [List.length_append, cw_len]; kernel_rfl)) (pt_one _ _ _) ?_
  intro w6 st6
  clear st5
  have hr := st6.at 0 rfl
  have hfr := st6.fr
  clear st6
  go_wp2_with fail
  exact bodyPost_ret (results_st2 rfl rfl hr Try.underlying72 rfl (by first | (rw [cw_len]; kernel_rfl) | (simp only [List.length_append, cw_len]; kernel_rfl)) rfl) rfl ⟨by unfold ptV ptL; rw [el_zero]; rfl, hfr⟩

set_option maxHeartbeats 16000000 in
set_option maxRecDepth 1000000 in
theorem read_pt3 (m : Md) (gc gp bx by_ : Nat) (w : World) (hok : m.Ok) (hcv : Has w gc (crvL m gp bx by_) 93) (hpm : Has w gp (mdL m) 134) (a : Option Addr) (n c : Nat) (l : List UInt8) (hb : RdB w a n l) (hc : n ≤ c) (h33 : l.length = 33) (h0 : (bs l)[0]? = some (.int .u8 3)) (hlt : decide (tlN l < m.M) = true) (r : Bool) (hr : rtOk m.M (crvN (tlN l)) = r) :
    Calls Try.prog 42 #[.pointer (some ⟨gc, 0, none⟩), .slice a n c] w fun e w' => e = .returned (.tuple #[ptV m (tlN l) (m.M - (atY m.M (tlN l)) % m.M) 1, .bool r]) ∧ Fr Nob w w' := by
  have HOK := Lib.hid hok
  have HCV := Lib.hid hcv
  have HPM := Lib.hid hpm
  clear hok hcv hpm
  have h33n : n = 33 := by have := hb.len; omega
  subst h33n
  obtain ⟨ba, oa, rfl, -⟩ := Rd.at hb (by decide)
  have HB := Lib.hid hb
  have HC := Lib.hid hc
  have HT := Lib.hid (RdB.tail hb c (by decide) hc)
  have H0 := Lib.hid h0
  have HTN := Lib.hid (tlN_lt l h33)
  clear hb hc h33 h0
  have HDL := Lib.hid hlt
  clear hlt
  have HR := Lib.hid hr
  clear hr
  have st0 := St.start Nob w
  go_enter Try.func42, Try.ntmps42
  go_wp2_with (with_reducible refine wl_stop (o := ⟨some 4, _, _, _, _, _⟩) ?_)
  refine wl_allocS st0 rfl rfl (z := .agg (List.replicate 12 (.int .u64 0)).toArray) (by kernel_rfl) (cw 4 0 ++ (cw 4 0 ++ cw 4 0)) (by rw [cw_zero]; rfl) ?_
  intro g4 w1 st1
  clear st0
  have hne : (((33 : Nat) : Int) != 33) = false := by rfl
  go_wp2_with (with_reducible refine wl_stop (o := ⟨some 14, _, _, _, _, _⟩) ?_)
  refine wl_cut rfl rfl Try.underlying34 size_u8g rfl 1 33 ⟨_, rfl⟩ rfl (by decide) HC.out ?_
  rw [show (33 : Nat) - 1 = 32 from rfl]
  go_wp2_with fail
  refine (fb_tail _ _ l _ (HT.out.still st1.fr)).mono ?_
  rintro e' w2 ⟨rfl, hf2⟩
  have st2 := st1.keep hf2
  clear st1 hf2
  go_wp2_with (with_reducible refine wl_stop (o := ⟨some 6, _, _, _, _, _⟩) ?_)
  refine wl_allocS st2 rfl rfl (z := .agg #[.int .u64 0, .int .u64 0, .int .u64 0, .int .u64 0]) (by kernel_rfl) (cw 4 0) (by rw [cw_zero]; rfl) ?_
  intro g6 w3 st3
  clear st2
  go_wp2_with (with_reducible refine wl_stop (o := ⟨none, _, _, _, _, _⟩) ?_)
  refine wl_storeS st3 1 rfl rfl rfl rfl rfl (by first | (simp only [cw_len]; done) | (simp only [List.length_append, cw_len]; done)) (by first | (rw [cw_len]; kernel_rfl) | (simp only [List.length_append, cw_len]; kernel_rfl)) (cw_one _ _) ?_
  intro w4 st4
  clear st3
  have hcell := rd_first (HB.out.still st4.fr) _ H0.out
  go_wp2_with fail
  clear hcell
  go_wp2_with fail
  refine wp_region_noPanic ?_
  refine wp_region_planG (fun wx => St Nob w wx [(g4, cw 4 0 ++ (cw 4 0 ++ cw 4 0), 72), (g6, cw 4 (tlN l), 82)]) 22 (.w 0 (.w 1 (.t 2 (.w 3 (.w 4 (.w 5 (.w 6 (.t 7 (.w 8 (.w 9 (.w 10 (.t 11 (.w 12 (.w 13 (.w 14 (.t 15 (.w 16 (.w 17 (.t 18 (.r 19 (.w 20 (.w 21 (.m 22 .nil))))))))))))))))))))))) (by kernel_rfl) (by kernel_rfl) st4.drew (fun _ _ _ _ _ h => h) ?_
  have hd4 := st4.drew
  clear st4
  refine planG_w (v := ?_) rfl rfl (fun wx => ?_) ?_
  rotate_left 1
  · (go_simp; with_reducible rfl)
  try simp only [Act.put, List.setIfInBounds_toArray, List.set_cons_zero, List.set_cons_succ]
  refine planG_w (v := ?_) rfl rfl (fun wx => ?_) ?_
  rotate_left 1
  · (go_simp; with_reducible rfl)
  try simp only [Act.put, List.setIfInBounds_toArray, List.set_cons_zero, List.set_cons_succ]
  refine planG_t (v := ?_) rfl rfl (fun wx hS => ?_) ?_
  rotate_left 1
  · (have hc := (rd_first (HB.out.still (St.fr hS)) _ H0.out); clear hS; go_simp; with_reducible rfl)
  try simp only [Act.put, List.setIfInBounds_toArray, List.set_cons_zero, List.set_cons_succ]
  refine planG_w (v := ?_) rfl rfl (fun wx => ?_) ?_
  rotate_left 1
  · (go_simp; with_reducible rfl)
  try simp only [Act.put, List.setIfInBounds_toArray, List.set_cons_zero, List.set_cons_succ]
  refine planG_w (v := ?_) rfl rfl (fun wx => ?_) ?_
  rotate_left 1
  · (go_simp; with_reducible rfl)
  try simp only [Act.put, List.setIfInBounds_toArray, List.set_cons_zero, List.set_cons_succ]
  refine planG_w (v := ?_) rfl rfl (fun wx => ?_) ?_
  rotate_left 1
  · (go_simp; with_reducible rfl)
  try simp only [Act.put, List.setIfInBounds_toArray, List.set_cons_zero, List.set_cons_succ]
  refine planG_w (v := ?_) rfl rfl (fun wx => ?_) ?_
  rotate_left 1
  · (go_simp; with_reducible rfl)
  try simp only [Act.put, List.setIfInBounds_toArray, List.set_cons_zero, List.set_cons_succ]
  refine planG_t (v := ?_) rfl rfl (fun wx hS => ?_) ?_
  rotate_left 1
  · (have hc := (rd_first (HB.out.still (St.fr hS)) _ H0.out); clear hS; go_simp; with_reducible rfl)
  try simp only [Act.put, List.setIfInBounds_toArray, List.set_cons_zero, List.set_cons_succ]
  refine planG_w (v := ?_) rfl rfl (fun wx => ?_) ?_
  rotate_left 1
  · (go_simp; with_reducible rfl)
  try simp only [Act.put, List.setIfInBounds_toArray, List.set_cons_zero, List.set_cons_succ]
  refine planG_w (v := ?_) rfl rfl (fun wx => ?_) ?_
  rotate_left 1
  · (go_simp; with_reducible rfl)
  try simp only [Act.put, List.setIfInBounds_toArray, List.set_cons_zero, List.set_cons_succ]
  refine planG_w (v := ?_) rfl rfl (fun wx => ?_) ?_
  rotate_left 1
  · (go_simp; with_reducible rfl)
  try simp only [Act.put, List.setIfInBounds_toArray, List.set_cons_zero, List.set_cons_succ]
  refine planG_arr rfl rfl rfl rfl (cw 4 (tlN l)) (fun wx hS => St.rangeL hS 1 rfl 0 _ (by rw [List.drop_zero, List.take_of_length_le (Nat.le_refl _)])) Try.underlying82 rfl (by first | (rw [cw_len]; kernel_rfl) | (simp only [List.length_append, cw_len]; kernel_rfl)) ?_
  try simp only [Act.put, List.setIfInBounds_toArray, List.set_cons_zero, List.set_cons_succ]
  refine planG_w (v := ?_) rfl rfl (fun wx => ?_) ?_
  rotate_left 1
  · (go_simp; with_reducible rfl)
  try simp only [Act.put, List.setIfInBounds_toArray, List.set_cons_zero, List.set_cons_succ]
  refine planG_w (v := ?_) rfl rfl (fun wx => ?_) ?_
  rotate_left 1
  · (go_simp; with_reducible rfl)
  try simp only [Act.put, List.setIfInBounds_toArray, List.set_cons_zero, List.set_cons_succ]
  refine planG_w (v := ?_) rfl rfl (fun wx => ?_) ?_
  rotate_left 1
  · (go_simp; with_reducible rfl)
  try simp only [Act.put, List.setIfInBounds_toArray, List.set_cons_zero, List.set_cons_succ]
  refine planG_t (v := ?_) rfl rfl (fun wx hS => ?_) ?_
  rotate_left 1
  · (have hc := (HCV.out.keep (St.fr hS) id).cell (i := 0) rfl; clear hS; go_simp; with_reducible rfl)
  try simp only [Act.put, List.setIfInBounds_toArray, List.set_cons_zero, List.set_cons_succ]
  refine planG_w (v := ?_) rfl rfl (fun wx => ?_) ?_
  rotate_left 1
  · (go_simp; with_reducible rfl)
  try simp only [Act.put, List.setIfInBounds_toArray, List.set_cons_zero, List.set_cons_succ]
  refine planG_w (v := ?_) rfl rfl (fun wx => ?_) ?_
  rotate_left 1
  · (go_simp; with_reducible rfl)
  try simp only [Act.put, List.setIfInBounds_toArray, List.set_cons_zero, List.set_cons_succ]
  refine planG_arr rfl rfl rfl rfl (cw 4 m.M) (fun wx hS => (HPM.out.keep (St.fr hS) id).range 0 _ (md_M m)) Try.underlying82 rfl (by first | (rw [cw_len]; kernel_rfl) | (simp only [List.length_append, cw_len]; kernel_rfl)) ?_
  try simp only [Act.put, List.setIfInBounds_toArray, List.set_cons_zero, List.set_cons_succ]
  refine planG_r rfl rfl ?_
  go_simp
  refine (MLess_v (tlN l) m.M _ HTN.out HOK.out.lt true HDL.out).mono ?_
  rintro e' w5 ⟨rfl, hf5⟩
  have st5 := hd4.keep hf5
  clear hf5
  clear hd4
  refine ⟨st5, ?_⟩
  try simp only [Act.put, List.setIfInBounds_toArray, List.set_cons_zero, List.set_cons_succ]
  refine planG_w (v := ?_) rfl rfl (fun wx => ?_) ?_
  rotate_left 1
  · (go_simp; with_reducible rfl)
  try simp only [Act.put, List.setIfInBounds_toArray, List.set_cons_zero, List.set_cons_succ]
  refine planG_w (v := ?_) rfl rfl (fun wx => ?_) ?_
  rotate_left 1
  · (go_simp; with_reducible rfl)
  try simp only [Act.put, List.setIfInBounds_toArray, List.set_cons_zero, List.set_cons_succ]
  refine planG_m rfl rfl ?_
  go_simp
  try simp only [Act.put, List.setIfInBounds_toArray, List.set_cons_zero, List.set_cons_succ]
  refine planG_end ?_
  refine NoPanic.normal ?_
  go_wp2_with fail
  refine wp_region_noPanic ?_
  refine wp_region_plan (fun wx => St Nob w wx [(g4, cw 4 0 ++ (cw 4 0 ++ cw 4 0), 72), (g6, cw 4 (tlN l), 82)]) 13 (.w 0 (.w 1 (.w 2 (.w 3 (.t 4 (.t 5 (.b 6 11 (.b 7 11 (.w 8 (.w 9 (.w 10 (.r 11 (.r 12 (.m 13 .nil)))))) (.r 7 (.w 8 (.w 9 (.w 10 (.r 12 (.m 13 .nil))))))) (.r 6 (.r 7 (.w 8 (.w 9 (.w 10 (.r 12 (.m 13 .nil)))))))))))))) (by kernel_rfl) (by kernel_rfl) st5.drew (fun _ _ _ _ _ h => h) ?_
  have hd5 := st5.drew
  clear st5
  refine plan_w (v := ?_) rfl rfl (fun wx => ?_) ?_
  rotate_left 1
  · (go_simp; with_reducible rfl)
  try simp only [Act.put, List.setIfInBounds_toArray, List.set_cons_zero, List.set_cons_succ]
  refine plan_w (v := ?_) rfl rfl (fun wx => ?_) ?_
  rotate_left 1
  · (go_simp; with_reducible rfl)
  try simp only [Act.put, List.setIfInBounds_toArray, List.set_cons_zero, List.set_cons_succ]
  refine plan_w (v := ?_) rfl rfl (fun wx => ?_) ?_
  rotate_left 1
  · (go_simp; with_reducible rfl)
  try simp only [Act.put, List.setIfInBounds_toArray, List.set_cons_zero, List.set_cons_succ]
  refine plan_w (v := ?_) rfl rfl (fun wx => ?_) ?_
  rotate_left 1
  · (go_simp; with_reducible rfl)
  try simp only [Act.put, List.setIfInBounds_toArray, List.set_cons_zero, List.set_cons_succ]
  refine plan_t (v := ?_) rfl rfl (fun wx hS => ?_) ?_
  rotate_left 1
  · (have hc := (HCV.out.keep (St.fr hS) id).cell (i := 0) rfl; clear hS; go_simp; with_reducible rfl)
  try simp only [Act.put, List.setIfInBounds_toArray, List.set_cons_zero, List.set_cons_succ]
  refine plan_arr rfl rfl rfl rfl (cw 4 (tlN l)) (fun wx hS => St.rangeL hS 1 rfl 0 _ (by rw [List.drop_zero, List.take_of_length_le (Nat.le_refl _)])) Try.underlying82 rfl (by first | (rw [cw_len]; kernel_rfl) | (simp only [List.length_append, cw_len]; kernel_rfl)) ?_
  try simp only [Act.put, List.setIfInBounds_toArray, List.set_cons_zero, List.set_cons_succ]
  refine plan_key1 (C := fun g7 wz => St Nob w wz [(g4, cw 4 0 ++ (cw 4 0 ++ cw 4 0), 72), (g6, cw 4 (tlN l), 82), (g7, cw 4 (elN m (tlN l)) ++ (cw 4 (elN m (atY m.M (tlN l))) ++ cw 4 (elN m 1)), 72)]) (F := ?_) (fun key => ?_) ?_
  rotate_left 1
  · skip
    refine plan_b0 rfl rfl rfl rfl ?_ ?_
    · skip
      go_simp
      refine (MTo_any m gp _ HOK.out (HPM.out.keep hd5.fr id) (tlN l) HTN.out).mono ?_
      rintro e' w6 ⟨rfl, hf6⟩
      have st6 := hd5.keep hf6
      clear hf6
      refine ⟨st6, ?_⟩
      try simp only [Act.put, List.setIfInBounds_toArray, List.set_cons_zero, List.set_cons_succ]
      refine plan_b0 rfl rfl rfl rfl ?_ ?_
      · skip
        go_simp
        refine (at_u m gc gp bx by_ _ HOK.out (HCV.out.keep st6.fr id) (HPM.out.keep st6.fr id) (tlN l) r HR.out).mono ?_
        rintro e' w7 ⟨rfl, hf7⟩
        have st7 := st6.keep hf7
        clear hf7
        refine ⟨st7, ?_⟩
        try simp only [Act.put, List.setIfInBounds_toArray, List.set_cons_zero, List.set_cons_succ]
        refine plan_w (v := ?_) rfl rfl (fun wx => ?_) ?_
        rotate_left 1
        · (go_simp; with_reducible rfl)
        try simp only [Act.put, List.setIfInBounds_toArray, List.set_cons_zero, List.set_cons_succ]
        refine plan_w (v := ?_) rfl rfl (fun wx => ?_) ?_
        rotate_left 1
        · (go_simp; with_reducible rfl)
        try simp only [Act.put, List.setIfInBounds_toArray, List.set_cons_zero, List.set_cons_succ]
        refine plan_w (v := ?_) rfl rfl (fun wx => ?_) ?_
        rotate_left 1
        · (go_simp; with_reducible rfl)
        try simp only [Act.put, List.setIfInBounds_toArray, List.set_cons_zero, List.set_cons_succ]
        refine plan_r rfl rfl ?_
        refine wp_allocS st7 rfl (z := .agg #[.int .u64 0, .int .u64 0, .int .u64 0, .int .u64 0, .int .u64 0, .int .u64 0, .int .u64 0, .int .u64 0, .int .u64 0, .int .u64 0, .int .u64 0, .int .u64 0]) (by kernel_rfl) (cw 12 0) (by rw [cw_zero]; rfl) ?_
        intro g7 w8 st8
        refine ⟨St.less st8 (by simp), ?_⟩
        try simp only [Act.put, List.setIfInBounds_toArray, List.set_cons_zero, List.set_cons_succ]
        refine plan_r rfl rfl ?_
        refine wp_storeS st8 2 rfl rfl rfl rfl (by first | (simp only [cw_len]; done) | (simp only [List.length_append, cw_len]; done)) (by first | (rw [cw_len]; kernel_rfl) | (simp only [List.length_append, cw_len]; kernel_rfl)) (pt_one _ _ _) ?_
        intro w9 st9
        refine ⟨St.less st9 (by simp), ?_⟩
        try simp only [Act.put]
        refine plan_m rfl rfl ?_
        go_simp
        try simp only [Act.put, List.setIfInBounds_toArray, List.set_cons_zero, List.set_cons_succ]
        refine plan_end ?_
        exact key g7 _ st9
      · skip
        refine wp_allocS st6 rfl (z := .agg #[.int .u64 0, .int .u64 0, .int .u64 0, .int .u64 0, .int .u64 0, .int .u64 0, .int .u64 0, .int .u64 0, .int .u64 0, .int .u64 0, .int .u64 0, .int .u64 0]) (by kernel_rfl) (cw 12 0) (by rw [cw_zero]; rfl) ?_
        intro g7 w10 st10
        refine ⟨St.less st10 (by simp), ?_⟩
        try simp only [Act.put, List.setIfInBounds_toArray, List.set_cons_zero, List.set_cons_succ]
        refine plan_r rfl rfl ?_
        go_simp
        refine (at_u m gc gp bx by_ _ HOK.out (HCV.out.keep st10.fr id) (HPM.out.keep st10.fr id) (tlN l) r HR.out).mono ?_
        rintro e' w11 ⟨rfl, hf11⟩
        have st11 := st10.keep hf11
        clear hf11
        refine ⟨St.less st11 (by simp), ?_⟩
        try simp only [Act.put, List.setIfInBounds_toArray, List.set_cons_zero, List.set_cons_succ]
        refine plan_w (v := ?_) rfl rfl (fun wx => ?_) ?_
        rotate_left 1
        · (go_simp; with_reducible rfl)
        try simp only [Act.put, List.setIfInBounds_toArray, List.set_cons_zero, List.set_cons_succ]
        refine plan_w (v := ?_) rfl rfl (fun wx => ?_) ?_
        rotate_left 1
        · (go_simp; with_reducible rfl)
        try simp only [Act.put, List.setIfInBounds_toArray, List.set_cons_zero, List.set_cons_succ]
        refine plan_w (v := ?_) rfl rfl (fun wx => ?_) ?_
        rotate_left 1
        · (go_simp; with_reducible rfl)
        try simp only [Act.put, List.setIfInBounds_toArray, List.set_cons_zero, List.set_cons_succ]
        refine plan_r rfl rfl ?_
        refine wp_storeS st11 2 rfl rfl rfl rfl (by first | (simp only [cw_len]; done) | (simp only [List.length_append, cw_len]; done)) (by first | (rw [cw_len]; kernel_rfl) | (simp only [List.length_append, cw_len]; kernel_rfl)) (pt_one _ _ _) ?_
        intro w12 st12
        refine ⟨St.less st12 (by simp), ?_⟩
        try simp only [Act.put]
        refine plan_m rfl rfl ?_
        go_simp
        try simp only [Act.put, List.setIfInBounds_toArray, List.set_cons_zero, List.set_cons_succ]
        refine plan_end ?_
        exact key g7 _ st12
    · skip
      refine wp_allocS hd5 rfl (z := .agg #[.int .u64 0, .int .u64 0, .int .u64 0, .int .u64 0, .int .u64 0, .int .u64 0, .int .u64 0, .int .u64 0, .int .u64 0, .int .u64 0, .int .u64 0, .int .u64 0]) (by kernel_rfl) (cw 12 0) (by rw [cw_zero]; rfl) ?_
      intro g7 w13 st13
      refine ⟨St.less st13 (by simp), ?_⟩
      try simp only [Act.put, List.setIfInBounds_toArray, List.set_cons_zero, List.set_cons_succ]
      refine plan_r rfl rfl ?_
      go_simp
      refine (MTo_any m gp _ HOK.out (HPM.out.keep st13.fr id) (tlN l) HTN.out).mono ?_
      rintro e' w14 ⟨rfl, hf14⟩
      have st14 := st13.keep hf14
      clear hf14
      refine ⟨St.less st14 (by simp), ?_⟩
      try simp only [Act.put, List.setIfInBounds_toArray, List.set_cons_zero, List.set_cons_succ]
      refine plan_r rfl rfl ?_
      go_simp
      refine (at_u m gc gp bx by_ _ HOK.out (HCV.out.keep st14.fr id) (HPM.out.keep st14.fr id) (tlN l) r HR.out).mono ?_
      rintro e' w15 ⟨rfl, hf15⟩
      have st15 := st14.keep hf15
      clear hf15
      refine ⟨St.less st15 (by simp), ?_⟩
      try simp only [Act.put, List.setIfInBounds_toArray, List.set_cons_zero, List.set_cons_succ]
      refine plan_w (v := ?_) rfl rfl (fun wx => ?_) ?_
      rotate_left 1
      · (go_simp; with_reducible rfl)
      try simp only [Act.put, List.setIfInBounds_toArray, List.set_cons_zero, List.set_cons_succ]
      refine plan_w (v := ?_) rfl rfl (fun wx => ?_) ?_
      rotate_left 1
      · (go_simp; with_reducible rfl)
      try simp only [Act.put, List.setIfInBounds_toArray, List.set_cons_zero, List.set_cons_succ]
      refine plan_w (v := ?_) rfl rfl (fun wx => ?_) ?_
      rotate_left 1
      · (go_simp; with_reducible rfl)
      try simp only [Act.put, List.setIfInBounds_toArray, List.set_cons_zero, List.set_cons_succ]
      refine plan_r rfl rfl ?_
      refine wp_storeS st15 2 rfl rfl rfl rfl (by first | (simp only [cw_len]; done) | (simp only [List.length_append, cw_len]; done)) (by first | (rw [cw_len]; kernel_rfl) | (simp only [List.length_append, cw_len]; kernel_rfl)) (pt_one _ _ _) ?_
      intro w16 st16
      refine ⟨St.less st16 (by simp), ?_⟩
      try simp only [Act.put]
      refine plan_m rfl rfl ?_
      go_simp
      try simp only [Act.put, List.setIfInBounds_toArray, List.set_cons_zero, List.set_cons_succ]
      refine plan_end ?_
      exact key g7 _ st16
  intro g7 w17 st17
  have st17 : St Nob w w17 [(g4, cw 4 0 ++ (cw 4 0 ++ cw 4 0), 72), (g6, cw 4 (tlN l), 82), (g7, cw 4 (elN m (tlN l)) ++ (cw 4 (elN m (atY m.M (tlN l))) ++ cw 4 (elN m 1)), 72)] := st17
  clear hd5
  refine NoPanic.normal ?_
  have hcell := rd_first (HB.out.still st17.fr) _ H0.out
  go_wp2_with (with_reducible refine wl_stop (o := ⟨some 65, _, _, _, _, _⟩) ?_)
  refine wl_loadSt st17 2 rfl rfl rfl Try.underlying72 rfl rfl (by first | (rw [cw_len]; kernel_rfl) | (simp only [List.length_append, cw_len]; kernel_rfl)) ?_
  clear hcell
  go_wp2_with fail
  refine (opposite_u m gc gp bx by_ _ HOK.out (HCV.out.keep st17.fr id) (HPM.out.keep st17.fr id) (tlN l) (atY m.M (tlN l)) 1).mono ?_
  rintro e' w18 ⟨rfl, hf18⟩
  have st18 := st17.keep hf18
  clear st17 hf18
  go_wp2_with (with_reducible refine wl_stop (o := ⟨none, _, _, _, _, _⟩) ?_)
  refine wl_storeS st18 2 rfl rfl rfl rfl rfl (by first | (simp only [cw_len]; done) | (simp only [List.length_append, cw_len]; done)) (by first | (rw [cw_len]; kernel_rfl) | (simp only [List.length_append, cw_len]; kernel_rfl)) (pt_one _ _ _) ?_
  intro w19 st19
  clear st18
  go_wp2_with (with_reducible refine wl_stop (o := ⟨some 67, _, _, _, _, _⟩) ?_)
  refine wl_loadSt st19 2 rfl rfl rfl Try.underlying72 rfl rfl (by first | (rw [cw_len]; kernel_rfl) | (simp only [List.length_append, cw_len]; kernel_rfl)) ?_
  go_wp2_with (with_reducible refine wl_stop (o := ⟨none, _, _, _, _, _⟩) ?_)
  refine wl_storeS st19 0 rfl rfl rfl rfl rfl (by first | (simp only [cw_len]; done) | (simp only [List.length_append, cw_len]; done)) (by first | (rw [cw_len]; kernel_rfl) | (simp only [List.length_append, cw_len]; kernel_rfl)) (pt_one _ _ _) ?_
  intro w20 st20
  clear st19
  have hr := st20.at 0 rfl
  have hfr := st20.fr
  clear st20
  go_wp2_with fail
  exact bodyPost_ret (results_st2 rfl rfl hr Try.underlying72 rfl (by first | (rw [cw_len]; kernel_rfl) | (simp only [List.length_append, cw_len]; kernel_rfl)) rfl) rfl ⟨by unfold ptV ptL; rfl, hfr⟩
end Go.Proofs.Ytdbgddngapminaa

/- read and bytes of a program's points. -/
namespace Go.Proofs.Ytdbgddngapminaa
open Go.RowKit Go.Mv Mvp Mvq
theorem bs_head (l : List UInt8) (h : l.length = 33) (b : UInt8) (hb : l.getD 0 0 = b) : (bs l)[0]? = some (.int .u8 (b.toNat : Int)) := by
  cases l with
  | nil => cases h
  | cons x t =>
    have : x = b := by simpa using hb
    subst this
    rfl
theorem u8_of {b : UInt8} {k : Nat} (h : b.toNat = k) : b = UInt8.ofNat k := by rw [← h]; simp
theorem bs_head2 (l : List UInt8) (h : l.length = 33) (hb : l.getD 0 0 = 2) : (bs l)[0]? = some (.int .u8 2) := by rw [bs_head l h 2 hb]; rfl
theorem bs_head3 (l : List UInt8) (h : l.length = 33) (hb : l.getD 0 0 = 3) : (bs l)[0]? = some (.int .u8 3) := by rw [bs_head l h 3 hb]; rfl
theorem bs_head0 (l : List UInt8) (h : l.length = 33) (hb : l.getD 0 0 = 0) : (bs l)[0]? = some (.int .u8 0) := by rw [bs_head l h 0 hb]; rfl
theorem kc_negM (b : Nat) : kc (mP.M - b % mP.M) = - kc b := by rw [mP_fP]; exact kc_negn b
theorem hatY (n : Nat) (hr : rtOk mP.M (crvN n) = true) : kc (atY mP.M n) = kc (rtV fP (crvN n)) := by unfold atY; rw [if_pos hr, mP_fP]
theorem affT_L (x y : Nat) (h : onC (.A (kc x) (kc y))) : (affT x y h).L = ptL mP x y 1 := rfl
attribute [local irreducible] atY rtV rtOk ptL crvN tlN affT
theorem read_ex (l : List UInt8) (h : rdOk l = true) : ∃ t : PT, t.pt = rdPt l ∧ ∀ (gc : Nat) (a : Option Addr) (n c : Nat) (w : World), Cv w gc → RdB w a n l → n ≤ c →
    Calls Try.prog 42 #[.pointer (some ⟨gc, 0, none⟩), .slice a n c] w fun e w' => e = .returned (.tuple #[.agg t.L.toArray, .bool true]) ∧ Fr Nob w w' := by
  have hon := rd_on h
  unfold rdOk at h
  unfold rdPt at *
  simp only [Bool.and_eq_true, decide_eq_true_eq] at h
  obtain ⟨h33, h⟩ := h
  by_cases h0 : l.getD 0 0 = 0
  · rw [if_pos h0] at h
    refine ⟨noT, by rw [if_pos h0, noT_pt], ?_⟩
    rintro gc a n c w ⟨gp, h1, h2⟩ hb hc
    exact read_zero mP gc gp gXn gYn w mP_ok h1 h2 a n c l hb hc h33 (bs_head0 l h33 h0) true h
  · rw [if_neg h0] at h hon
    simp only [Bool.and_eq_true, decide_eq_true_eq] at h
    obtain ⟨h23, hlt, hr⟩ := h
    rw [← mP_fP] at hlt hr
    have hy := hatY _ hr
    rcases h23 with h2 | h3
    · have h3 : ¬ l.getD 0 0 = 3 := by rw [h2]; decide
      rw [if_neg h3, ← hy] at hon
      refine ⟨affT (tlN l) (atY mP.M (tlN l)) hon, ?_, ?_⟩
      · rw [affT_pt, if_neg h0, if_neg h3, hy]
      · rintro gc a n c w ⟨gp, g1, g2⟩ hb hc
        rw [affT_L]
        exact read_pt2 mP gc gp gXn gYn w mP_ok g1 g2 a n c l hb hc h33 (bs_head2 l h33 h2) (decide_eq_true hlt) true hr
    · rw [if_pos h3, ← hy, ← kc_negM] at hon
      refine ⟨affT (tlN l) (mP.M - atY mP.M (tlN l) % mP.M) hon, ?_, ?_⟩
      · rw [affT_pt, if_neg h0, if_pos h3, kc_negM, hy]
      · rintro gc a n c w ⟨gp, g1, g2⟩ hb hc
        rw [affT_L]
        exact read_pt3 mP gc gp gXn gYn w mP_ok g1 g2 a n c l hb hc h33 (bs_head3 l h33 h3) (decide_eq_true hlt) true hr
open Classical in
noncomputable def rdT (l : List UInt8) : PT := if h : rdOk l = true then Classical.choose (read_ex l h) else noT
theorem rdT_pt {l : List UInt8} (h : rdOk l = true) : (rdT l).pt = rdPt l := by unfold rdT; rw [dif_pos h]; exact (Classical.choose_spec (read_ex l h)).1
theorem read_t (l : List UInt8) (h : rdOk l = true) (gc : Nat) (a : Option Addr) (n c : Nat) (w : World) (hcv : Cv w gc) (hb : RdB w a n l) (hc : n ≤ c) :
    Calls Try.prog 42 #[.pointer (some ⟨gc, 0, none⟩), .slice a n c] w fun e w' => e = .returned (.tuple #[.agg (rdT l).L.toArray, .bool true]) ∧ Fr Nob w w' := by
  unfold rdT; rw [dif_pos h]; exact (Classical.choose_spec (read_ex l h)).2 gc a n c w hcv hb hc
theorem read_f (l : List UInt8) (h : rdOk l = false) (gc : Nat) (a : Option Addr) (n c : Nat) (w : World) (hcv : Cv w gc) (hb : RdB w a n l) (hc : n ≤ c) :
    Calls Try.prog 42 #[.pointer (some ⟨gc, 0, none⟩), .slice a n c] w fun e w' => (∃ X Y Z, e = .returned (.tuple #[.agg (ptL mP X Y Z).toArray, .bool false])) ∧ Fr Nob w w' := by
  obtain ⟨gp, g1, g2⟩ := hcv
  unfold rdOk at h
  by_cases h33 : l.length = 33
  · rw [decide_eq_true h33, Bool.true_and] at h
    by_cases h0 : l.getD 0 0 = 0
    · rw [if_pos h0] at h
      exact (read_zero mP gc gp gXn gYn w mP_ok g1 g2 a n c l hb hc h33 (bs_head0 l h33 h0) false h).mono fun _ _ t => ⟨⟨_, _, _, t.1⟩, t.2⟩
    · rw [if_neg h0] at h
      by_cases h2 : l.getD 0 0 = 2
      · rw [decide_eq_true (Or.inl h2), Bool.true_and] at h
        cases hlt : decide (tlN l < mP.M) with
        | false => exact (read_ge2 mP gc gp gXn gYn w mP_ok g1 g2 a n c l hb hc h33 (bs_head2 l h33 h2) hlt).mono fun _ _ t => ⟨⟨_, _, _, t.1⟩, t.2⟩
        | true =>
          rw [← mP_fP, hlt, Bool.true_and] at h
          exact (read_pt2 mP gc gp gXn gYn w mP_ok g1 g2 a n c l hb hc h33 (bs_head2 l h33 h2) hlt false h).mono fun _ _ t => ⟨⟨_, _, _, t.1⟩, t.2⟩
      · by_cases h3 : l.getD 0 0 = 3
        · rw [decide_eq_true (Or.inr h3), Bool.true_and] at h
          cases hlt : decide (tlN l < mP.M) with
          | false => exact (read_ge3 mP gc gp gXn gYn w mP_ok g1 g2 a n c l hb hc h33 (bs_head3 l h33 h3) hlt).mono fun _ _ t => ⟨⟨_, _, _, t.1⟩, t.2⟩
          | true =>
            rw [← mP_fP, hlt, Bool.true_and] at h
            exact (read_pt3 mP gc gp gXn gYn w mP_ok g1 g2 a n c l hb hc h33 (bs_head3 l h33 h3) hlt false h).mono fun _ _ t => ⟨⟨_, _, _, t.1⟩, t.2⟩
        · have q0 : (((l.getD 0 0).toNat : Int) == 0) = false := by
            simp only [beq_eq_false_iff_ne, ne_eq]
            intro e
            exact h0 (u8_of (k := 0) (by omega))
          have q2 : (((l.getD 0 0).toNat : Int) != 2) = true := by
            simp only [bne_iff_ne, ne_eq]
            intro e
            exact h2 (u8_of (k := 2) (by omega))
          have q3 : (((l.getD 0 0).toNat : Int) != 3) = true := by
            simp only [bne_iff_ne, ne_eq]
            intro e
            exact h3 (u8_of (k := 3) (by omega))
          exact (read_bad mP gc gp gXn gYn w mP_ok g1 g2 a n c l hb hc h33 _ (bs_head l h33 _ rfl) q0 q2 q3).mono fun _ _ t => ⟨⟨_, _, _, t.1⟩, t.2⟩
  · exact (read_len mP gc gp gXn gYn w mP_ok g1 g2 a n c l hb hc h33).mono fun _ _ t => ⟨⟨_, _, _, t.1⟩, t.2⟩
theorem kinv_n (z : Nat) : kc (z ^ (mP.M - 2)) = kinv (kc z) := by
  rw [show mP.M - 2 = fP - 2 by rw [mP_fP]]
  unfold kinv
  rw [kc_val_mod]
  generalize fP - 2 = n
  rw [← kc_mod (z ^ n), ← kc_mod ((z % fP) ^ n), ← Nat.pow_mod]
theorem wrPt_A (x y : K) : wrPt (.A x y) = UInt8.ofNat (2 + y.val % 2) :: be32 x.val := rfl
/-- bytes of a point -/
theorem bytes_c (s : PT) (gc : Nat) (w : World) (hcv : Cv w gc) :
    Calls Try.prog 61 #[.pointer (some ⟨gc, 0, none⟩), .agg s.L.toArray] w fun e w' => ∃ sv, e = .returned sv ∧ Own w' w.heap.size 5 1 sv 33 (bs (wrPt s.pt)) ∧ Fr Nob w w' := by
  obtain ⟨gp, g1, g2⟩ := hcv
  cases hz : s.isO with
  | true =>
    rw [PT.isO_t hz]
    exact bytes_none mP gc gp gXn gYn w mP_ok g1 g2 s.x s.y s.z hz
  | false =>
    have hne := PT.isO_f hz
    have e : s.pt = .A (kc (s.x * (s.z ^ (mP.M - 2) * s.z ^ (mP.M - 2)))) (kc (s.y * (s.z ^ (mP.M - 2) * s.z ^ (mP.M - 2) * s.z ^ (mP.M - 2)))) := by
      show jk _ _ _ = _
      rw [jk_nz hne]
      simp only [kc_mul', kinv_n]
    rw [e]
    have hb := bytes_v mP gc gp gXn gYn w mP_ok g1 g2 s.x s.y s.z hz _ _ _ _ _ _ _ rfl rfl rfl rfl rfl rfl rfl
    refine hb.mono ?_
    rintro e' w' ⟨sv, h1, h2, h3⟩
    refine ⟨sv, h1, ?_, h3⟩
    rw [wrPt_A, kc_val_mod, kc_val_mod, ← mP_fP]
    exact h2
end Go.Proofs.Ytdbgddngapminaa

/- group: with, over a closure's contract; the closures of Plus, Minus and Times. -/
namespace Go.Proofs.Ytdbgddngapminaa
open Go.RowKit Go.Mv Mvp Mvq
/-- are all of them points? -/
def rdsB (ls : List (List UInt8)) : Bool := ls.all rdOk
/-- the points' cells -/
noncomputable def ptsL (ls : List (List UInt8)) : List Value := ls.flatMap fun l => (rdT l).L
theorem ptL_one (m : Md) (x y z : Nat) : ∀ v ∈ ptL m x y z, v.oneCell' = true := pt_one _ _ _
theorem ptsL_snoc (ls : List (List UInt8)) (l : List UInt8) : ptsL (ls ++ [l]) = ptsL ls ++ (rdT l).L := by simp [ptsL]
theorem ptsL_at (ls : List (List UInt8)) (i : Nat) (h : i < ls.length) : ((ptsL ls).drop (i * 12)).take (rdT (ls.getD i [])).L.length = (rdT (ls.getD i [])).L := by
  rw [PT.len]
  induction ls generalizing i with
  | nil => simp at h
  | cons l ls ih =>
    rw [ptsL, List.flatMap_cons, ← ptsL]
    cases i with
    | zero =>
      rw [Nat.zero_mul, List.drop_zero, List.take_append_of_le_length (by rw [PT.len]; exact Nat.le_refl _), List.take_of_length_le (by rw [PT.len]; exact Nat.le_refl _)]
      rfl
    | succ i =>
      rw [List.drop_append, PT.len, List.drop_of_length_le (by rw [PT.len]; omega), List.nil_append, show (i + 1) * 12 - 12 = i * 12 by omega, ih i (by simpa using h)]
      rfl
theorem rdsB_take (ls : List (List UInt8)) (k : Nat) (h : k < ls.length) : rdsB (ls.take (k + 1)) = (rdsB (ls.take k) && rdOk (ls.getD k [])) := by
  rw [List.take_succ_eq_append_getElem h, rdsB, List.all_append, ← rdsB]
  simp [List.getD_eq_getElem?_getD, h]
theorem rdsB_bad (ls : List (List UInt8)) (k : Nat) (h : k < ls.length) (hb : rdOk (ls.getD k []) = false) : rdsB ls = false := by
  rw [rdsB, List.all_eq_false]
  refine ⟨ls.getD k [], ?_, by simpa using hb⟩
  rw [List.getD_eq_getElem?_getD, List.getElem?_eq_getElem h]
  exact List.getElem_mem h
theorem info_pt : (Try.prog.info? 72).map (fun i => (i.zero, i.size, i.bytes)) = some (some (.agg (List.replicate 12 (.int .u64 0)).toArray), 12, 96) := by kernel_rfl
attribute [local irreducible] limbs lw mix cw cSub cAdd cMul beN laid be32 montT mstep elN mdL numB rtN rtV rtOk gXn gYn PT.L addT dblT mulT tbL tmR tmL dbN innT outT sumT dig rdT rdOk rdPt ptL ptsL rdsB wrPt
set_option maxHeartbeats 8000000 in
set_option maxRecDepth 1000000 in
theorem with_plus_ok (al : Option Addr) (n cl : Nat) (vs : List Value) (ls : List (List UInt8)) (w : World) (hv : Rd w al n vs) (hp : BParts w vs ls) (hn : n ≤ 100000) (hg : rdsB ls = true) (t : PT) (hop : ∀ ap cp wx, Fr Nob w wx → Rd wx ap (ls.length * 12) (ptsL ls) → Calls Try.prog 44 #[.slice ap ls.length cp] wx fun e w' => e = .returned (.agg t.L.toArray) ∧ Fr Nob wx w') :
    Calls Try.prog 43 #[.func (.func 44) #[] #[], .slice al n cl] w fun e w' => ∃ sv, e = .returned (.tuple #[sv, .int .i64 0]) ∧ Own w' w.heap.size 5 1 sv 33 (bs (wrPt t.pt)) ∧ Fr Nob w w' := by
  have HV := Lib.hid hv
  have HP := Lib.hid hp
  have HL := Lib.hid (show ls.length = n by rw [← hp.1, hv.len])
  have HN := Lib.hid hn
  have hnI : (n : Int) ≤ 100000 := by omega
  clear hv hp
  have HOP := Lib.hid hop
  have HGA := Lib.hid hg
  clear hop hg
  go_enter Try.func43, Try.ntmps43
  go_wp2
  go_loopw [6, 13] (fun v i wr => ∃ k : Nat, k ≤ n ∧ i = .int .i64 (k : Int) ∧ rdsB (ls.take k) = true ∧ Own wr w.heap.size 72 12 v k (ptsL (ls.take k)) ∧ Fr Nob w wr) (fun _ i _ => n - (intOf i).toNat)
  case atStart => exact ⟨0, Nat.zero_le _, rfl, by rw [List.take_zero]; unfold rdsB; rfl, by rw [List.take_zero]; unfold ptsL; exact Own.nil _ _ _ _, Fr.refl _ _⟩
  case round =>
    obtain ⟨k, hk, rfl, hgood, hown, hf⟩ := hrel
    by_cases hlt : k < n
    · have hltI : (k : Int) < (n : Int) := by omega
      obtain ⟨b, o, rfl, hat⟩ := (HV.out.still hf).at (by omega)
      have hvl : k < vs.length := by rw [HV.out.len]; exact hlt
      obtain ⟨a, nn, c, hve, hcc, hrd⟩ := HP.out.2 k (vs[k]'hvl) (List.getElem?_eq_getElem hvl)
      have hc1 := hat k _ (List.getElem?_eq_getElem hvl)
      rw [hve] at hc1
      have hlk : k < ls.length := by rw [HL.out]; exact hlt
      have hts := rdsB_take ls k hlk
      have hcs : ptsL (ls.take (k + 1)) = ptsL (ls.take k) ++ (rdT (ls.getD k [])).L := by
        rw [List.take_succ_eq_append_getElem hlk, ptsL_snoc]
        simp [List.getD_eq_getElem?_getD, hlk]
      have hbad := rdsB_bad ls k hlk
      generalize hL : ls.getD k [] = l at *
      have HLL := Lib.hid hL
      have HRD := Lib.hid (hrd.still hf)
      have HTS := Lib.hid hts
      have HCS := Lib.hid hcs
      have HBAD := Lib.hid hbad
      have HG := Lib.hid hgood
      have HOWN := Lib.hid hown
      have HF := Lib.hid hf
      have HCC := Lib.hid hcc
      clear hL hrd hts hcs hbad hgood hown hf hat hve hcc
      have st0 := St.start Nob wr
      have HK := Lib.hid (show rdOk l = true by
        cases hh : rdOk l
        · have := HBAD.out hh
          rw [HGA.out] at this
          cases this
        · rfl)
      skip
      go_wp2_with fail
      refine (k256_c _).mono ?_
      rintro e' w1 ⟨gc, rfl, hle, hcv, hf1⟩
      have st1 := st0.keep hf1
      have HCV := Lib.hid hcv
      clear hcv hle
      clear st0 hf1
      go_wp2_with fail
      refine (read_t l HK.out gc a nn c _ HCV.out (HRD.out.still st1.fr) HCC.out).mono ?_
      rintro e' w2 ⟨rfl, hf2⟩
      have st2 := st1.keep hf2
      clear st1 hf2
      go_wp2_with (with_reducible refine wl_stop (o := ⟨some 9, _, _, _, _, _⟩) ?_)
      refine wl_allocS st2 rfl rfl (z := .agg (List.replicate 12 (.int .u64 0)).toArray) (by kernel_rfl) (cw 12 0) (by rw [cw_zero]; rfl) ?_
      intro g9 w3 st3
      clear st2
      go_wp2_with (with_reducible refine wl_stop (o := ⟨none, _, _, _, _, _⟩) ?_)
      refine wl_storeS st3 0 rfl rfl rfl rfl rfl (by first | (simp only [cw_len]; done) | (simp only [List.length_append, cw_len, PT.len, ptL_len]; done)) (by first | (rw [cw_len]; kernel_rfl) | (simp only [PT.len]; kernel_rfl)) (PT.one _) ?_
      intro w4 st4
      clear st3
      have HFS := Lib.hid st4.fr
      go_wp2_with (with_reducible refine wl_stop (o := ⟨some 26, _, _, _, _, _⟩) ?_)
      refine wl_loadSt st4 0 rfl rfl rfl Try.underlying72 rfl rfl (by first | (rw [cw_len]; kernel_rfl) | (simp only [PT.len]; kernel_rfl)) ?_
      clear st4
      go_wp2_with (with_reducible refine wl_stop (o := ⟨some 27, _, _, _, _, _⟩) ?_)
      refine wl_slitR rfl rfl Try.underlying78 info_pt [.agg (rdT l).L.toArray] rfl (by simp [Value.cells, PT.len]) rfl ((rdT l).L) (by simp [Value.cells]) ?_
      intro wA hgA hfA hzA
      clear hzA
      have hfrA := HFS.out.then hfA
      have hsz := HF.out.size
      have hsz2 := hfrA.size
      have hownA := HOWN.out.still hfrA
      have hrdA : Rd wA (some ⟨w4.heap.size, 0, none⟩) (1 * 12) ((rdT l).L) := by
        have := Rd.whole hgA
        rwa [PT.len] at this
      have HRDA := Lib.hid hrdA
      have HOWNA := Lib.hid hownA
      have HFRA := Lib.hid hfrA
      clear hgA hfA hrdA hownA hfrA
      generalize w4.heap.size = gA at *
      go_wp2_with (with_reducible refine wl_stop (o := ⟨some 28, _, _, _, _, _⟩) ?_)
      refine wl_append rfl rfl Try.underlying78 info_pt rfl (by decide) HOWNA.out rfl rfl HRDA.out (PT.one _) (by unfold maxLen; omega) (by omega) (by omega) ?_
      intro vB wB hownB hfB hbB
      clear hbB
      have hfrB := HOWNA.out.fr (HF.out.then HFRA.out) (Nat.le_refl _) hfB
      have HFRB := Lib.hid hfrB
      rw [← HCS.out] at hownB
      have HOWNB := Lib.hid hownB
      clear hfrB hownB hfB
      go_wp2_with fail
      go_roundw
      case rel => exact ⟨k + 1, by omega, by go_num, by rw [HTS.out, HG.out, HK.out]; rfl, HOWNB.out, HFRB.out⟩
      case measure => simp [intOf]; omega

    · have hge : ¬ ((k : Int) < (n : Int)) := by omega
      have hkn : k = ls.length := by rw [HL.out]; omega
      rw [hkn, List.take_of_length_le (Nat.le_refl _)] at hgood hown
      obtain ⟨ap, cp, rfl, -, hre, -⟩ := hown.form
      have HRE := Lib.hid hre
      have HF := Lib.hid hf
      clear hkn hgood hown hf hre
      go_wp2_with fail
      refine (k256_c _).mono ?_
      rintro e w1 ⟨gc, rfl, hle, hcv, hf1⟩
      have HCV := Lib.hid hcv
      have HF1 := Lib.hid (HF.out.then hf1)
      have HRE1 := Lib.hid (HRE.out.still hf1)
      clear hle hcv hf1 HF HRE
      go_wp2_with fail
      refine (HOP.out ap cp _ HF1.out HRE1.out).mono ?_
      rintro e w2 ⟨rfl, hf2⟩
      have HCV2 := Lib.hid (HCV.out.keep hf2)
      have HF2 := Lib.hid (HF1.out.then hf2)
      clear hf2 HF1 HRE1 HCV
      go_wp2_with fail
      refine (bytes_c t gc _ HCV2.out).mono ?_
      rintro e w3 ⟨sv, rfl, hown3, hf3⟩
      have h2 := HF2.out.then hf3
      have ho := hown3.mono HF2.out.size
      clear hown3 hf3 HF2 HCV2
      go_wp2_with fail
      go_ret2
      exact ⟨sv, rfl, ho, h2⟩

set_option maxHeartbeats 8000000 in
set_option maxRecDepth 1000000 in
theorem with_plus_bad (al : Option Addr) (n cl : Nat) (vs : List Value) (ls : List (List UInt8)) (w : World) (hv : Rd w al n vs) (hp : BParts w vs ls) (hn : n ≤ 100000) (hg : rdsB ls = false) :
    Calls Try.prog 43 #[.func (.func 44) #[] #[], .slice al n cl] w fun e w' => e = .returned (.tuple #[.slice none 0 0, .int .i64 4]) ∧ Fr Nob w w' := by
  have HV := Lib.hid hv
  have HP := Lib.hid hp
  have HL := Lib.hid (show ls.length = n by rw [← hp.1, hv.len])
  have HN := Lib.hid hn
  have hnI : (n : Int) ≤ 100000 := by omega
  clear hv hp
  have HGA := Lib.hid hg
  clear hg
  go_enter Try.func43, Try.ntmps43
  go_wp2
  go_loopw [6, 13] (fun v i wr => ∃ k : Nat, k ≤ n ∧ i = .int .i64 (k : Int) ∧ rdsB (ls.take k) = true ∧ Own wr w.heap.size 72 12 v k (ptsL (ls.take k)) ∧ Fr Nob w wr) (fun _ i _ => n - (intOf i).toNat)
  case atStart => exact ⟨0, Nat.zero_le _, rfl, by rw [List.take_zero]; unfold rdsB; rfl, by rw [List.take_zero]; unfold ptsL; exact Own.nil _ _ _ _, Fr.refl _ _⟩
  case round =>
    obtain ⟨k, hk, rfl, hgood, hown, hf⟩ := hrel
    by_cases hlt : k < n
    · have hltI : (k : Int) < (n : Int) := by omega
      obtain ⟨b, o, rfl, hat⟩ := (HV.out.still hf).at (by omega)
      have hvl : k < vs.length := by rw [HV.out.len]; exact hlt
      obtain ⟨a, nn, c, hve, hcc, hrd⟩ := HP.out.2 k (vs[k]'hvl) (List.getElem?_eq_getElem hvl)
      have hc1 := hat k _ (List.getElem?_eq_getElem hvl)
      rw [hve] at hc1
      have hlk : k < ls.length := by rw [HL.out]; exact hlt
      have hts := rdsB_take ls k hlk
      have hcs : ptsL (ls.take (k + 1)) = ptsL (ls.take k) ++ (rdT (ls.getD k [])).L := by
        rw [List.take_succ_eq_append_getElem hlk, ptsL_snoc]
        simp [List.getD_eq_getElem?_getD, hlk]
      have hbad := rdsB_bad ls k hlk
      generalize hL : ls.getD k [] = l at *
      have HLL := Lib.hid hL
      have HRD := Lib.hid (hrd.still hf)
      have HTS := Lib.hid hts
      have HCS := Lib.hid hcs
      have HBAD := Lib.hid hbad
      have HG := Lib.hid hgood
      have HOWN := Lib.hid hown
      have HF := Lib.hid hf
      have HCC := Lib.hid hcc
      clear hL hrd hts hcs hbad hgood hown hf hat hve hcc
      have st0 := St.start Nob wr
      rcases Bool.eq_false_or_eq_true (rdOk l) with hh | hh
      · have HK := Lib.hid hh
        clear hh
        skip
        go_wp2_with fail
        refine (k256_c _).mono ?_
        rintro e' w1 ⟨gc, rfl, hle, hcv, hf1⟩
        have st1 := st0.keep hf1
        have HCV := Lib.hid hcv
        clear hcv hle
        clear st0 hf1
        go_wp2_with fail
        refine (read_t l HK.out gc a nn c _ HCV.out (HRD.out.still st1.fr) HCC.out).mono ?_
        rintro e' w2 ⟨rfl, hf2⟩
        have st2 := st1.keep hf2
        clear st1 hf2
        go_wp2_with (with_reducible refine wl_stop (o := ⟨some 9, _, _, _, _, _⟩) ?_)
        refine wl_allocS st2 rfl rfl (z := .agg (List.replicate 12 (.int .u64 0)).toArray) (by kernel_rfl) (cw 12 0) (by rw [cw_zero]; rfl) ?_
        intro g9 w3 st3
        clear st2
        go_wp2_with (with_reducible refine wl_stop (o := ⟨none, _, _, _, _, _⟩) ?_)
        refine wl_storeS st3 0 rfl rfl rfl rfl rfl (by first | (simp only [cw_len]; done) | (simp only [List.length_append, cw_len, PT.len, ptL_len]; done)) (by first | (rw [cw_len]; kernel_rfl) | (simp only [PT.len]; kernel_rfl)) (PT.one _) ?_
        intro w4 st4
        clear st3
        have HFS := Lib.hid st4.fr
        go_wp2_with (with_reducible refine wl_stop (o := ⟨some 26, _, _, _, _, _⟩) ?_)
        refine wl_loadSt st4 0 rfl rfl rfl Try.underlying72 rfl rfl (by first | (rw [cw_len]; kernel_rfl) | (simp only [PT.len]; kernel_rfl)) ?_
        clear st4
        go_wp2_with (with_reducible refine wl_stop (o := ⟨some 27, _, _, _, _, _⟩) ?_)
        refine wl_slitR rfl rfl Try.underlying78 info_pt [.agg (rdT l).L.toArray] rfl (by simp [Value.cells, PT.len]) rfl ((rdT l).L) (by simp [Value.cells]) ?_
        intro wA hgA hfA hzA
        clear hzA
        have hfrA := HFS.out.then hfA
        have hsz := HF.out.size
        have hsz2 := hfrA.size
        have hownA := HOWN.out.still hfrA
        have hrdA : Rd wA (some ⟨w4.heap.size, 0, none⟩) (1 * 12) ((rdT l).L) := by
          have := Rd.whole hgA
          rwa [PT.len] at this
        have HRDA := Lib.hid hrdA
        have HOWNA := Lib.hid hownA
        have HFRA := Lib.hid hfrA
        clear hgA hfA hrdA hownA hfrA
        generalize w4.heap.size = gA at *
        go_wp2_with (with_reducible refine wl_stop (o := ⟨some 28, _, _, _, _, _⟩) ?_)
        refine wl_append rfl rfl Try.underlying78 info_pt rfl (by decide) HOWNA.out rfl rfl HRDA.out (PT.one _) (by unfold maxLen; omega) (by omega) (by omega) ?_
        intro vB wB hownB hfB hbB
        clear hbB
        have hfrB := HOWNA.out.fr (HF.out.then HFRA.out) (Nat.le_refl _) hfB
        have HFRB := Lib.hid hfrB
        rw [← HCS.out] at hownB
        have HOWNB := Lib.hid hownB
        clear hfrB hownB hfB
        go_wp2_with fail
        go_roundw
        case rel => exact ⟨k + 1, by omega, by go_num, by rw [HTS.out, HG.out, HK.out]; rfl, HOWNB.out, HFRB.out⟩
        case measure => simp [intOf]; omega
      · have HK := Lib.hid hh
        clear hh
        skip
        go_wp2_with fail
        refine (k256_c _).mono ?_
        rintro e' w1 ⟨gc, rfl, hle, hcv, hf1⟩
        have st1 := st0.keep hf1
        have HCV := Lib.hid hcv
        clear hcv hle
        clear st0 hf1
        go_wp2_with fail
        refine (read_f l HK.out gc a nn c _ HCV.out (HRD.out.still st1.fr) HCC.out).mono ?_
        rintro e' w2 ⟨⟨X, Y, Z, rfl⟩, hf2⟩
        have st2 := st1.keep hf2
        clear st1 hf2
        go_wp2_with (with_reducible refine wl_stop (o := ⟨some 9, _, _, _, _, _⟩) ?_)
        refine wl_allocS st2 rfl rfl (z := .agg (List.replicate 12 (.int .u64 0)).toArray) (by kernel_rfl) (cw 12 0) (by rw [cw_zero]; rfl) ?_
        intro g9 w3 st3
        clear st2
        go_wp2_with (with_reducible refine wl_stop (o := ⟨none, _, _, _, _, _⟩) ?_)
        refine wl_storeS st3 0 rfl rfl rfl rfl rfl (by first | (simp only [cw_len]; done) | (simp only [List.length_append, cw_len, PT.len, ptL_len]; done)) (by first | (rw [cw_len]; kernel_rfl) | (simp only [ptL_len]; kernel_rfl)) (ptL_one _ _ _ _) ?_
        intro w4 st4
        clear st3
        have HFS := Lib.hid (HF.out.then st4.fr)
        clear st4
        go_wp2_with fail
        go_ret2
        exact ⟨rfl, HFS.out⟩
    · exfalso
      have hkn : k = ls.length := by rw [HL.out]; omega
      rw [hkn, List.take_of_length_le (Nat.le_refl _), HGA.out] at hgood
      cases hgood

end Go.Proofs.Ytdbgddngapminaa
