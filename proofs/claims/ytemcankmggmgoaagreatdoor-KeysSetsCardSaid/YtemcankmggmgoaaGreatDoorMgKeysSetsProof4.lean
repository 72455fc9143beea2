/- ; ; ; ; ; ; ; ; ; ; ; ; ; ; ; ; ; ; ; ; ; ; ; ; ; . -/
import Derived.Test.YtemcankmggmgoaaGreatDoorMgKeysSetsProof3
import Derived.Test.YtemcankmggmgoaaGreatDoorMgKeysSetsProof1
import Derived.Test.YtemcankmggmgoaaGreatDoorMgKeysSetsProof2
import Derived.SliceStrings
import Derived.SizedLaws
import Derived.OpenShut
import Derived.ProofKit
import Derived.IntWalk
set_option maxHeartbeats 16000000
set_option maxRecDepth 1000000

namespace Go.Proofs.YtemcankmggmgoaaGreatDoor
section
open Go.RowKit Go.Mv Mvp
theorem s0V (r k : Nat) : rcP r (k + 1) = l0T r (rcP r k) k := by simp [rcP, List.range_succ]
theorem d0O (r k : Nat) : rcR r (k + 1) = e0X r (rcR r k) k := by simp [rcR, List.range_succ]
theorem o0u (r : Nat) (hr : r < 24) (w : World) :
  Calls Tryz.prog 126 #[.int .i64 (r : Int)] w fun e w' => e = .returned (.int .u64 ((rcP r 8).toNat : Int)) ∧ w = w' := by
 go_enter Tryz.func126, Tryz.ntmps126
 go_wp2
 go_loop [2, 4] (fun c i => ∃ k : Nat, k ≤ 8 ∧ i = .int .i64 k ∧ c = .int .u64 ((rcP r k).toNat : Int)) (fun _ i => (8 - intOf i).toNat)
 case atStart => exact ⟨0, by omega, rfl, rfl⟩
 case round =>
  obtain ⟨k, hk, rfl, rfl⟩ := hrel
  by_cases hlt : k < 8
  ·go_wp2_with (first | (with_reducible refine wSk 13 ?_))
   refine j0Q rfl rfl Tryz.underlying9 rfl rfl (8 * r + k) (by simp) ?_ (UInt8.ofNat (l0S.getD (8 * r + k) 0)) ?_ ?_
   ·exact Nat.lt_of_lt_of_le (show 8 * r + k < 192 by omega) (by decide +kernel)
   ·generalize hj : 8 * r + k = j
    have hj' : j < 192 := by omega
    clear hj
    revert j
    decide +kernel
   generalize hy : UInt8.ofNat (l0S.getD (8 * r + k) 0) = y
   have HY := qH hy; clear hy
   go_wp2
   go_round
   case rel => exact ⟨k + 1, by omega, by go_num, by rw [s0V, l0T, HY.out]; rfl⟩
   case measure => simp [intOf]; omega
  ·go_wp2
   go_ret
   have : k = 8 := by omega
   subst this
   exact ⟨rfl, rfl⟩
theorem o0v (r : Nat) (hr : r < 24) (w : World) :
  Calls Tryz.prog 119 #[.int .i64 (r : Int)] w fun e w' => e = .returned (.int .u64 ((rcR r 7).toNat : Int)) ∧ w = w' := by
 go_enter Tryz.func119, Tryz.ntmps119
 go_wp2
 go_loop [3, 4] (fun c i => ∃ k : Nat, k ≤ 7 ∧ i = .int .i64 k ∧ c = .int .u64 ((rcR r k).toNat : Int)) (fun _ i => (7 - intOf i).toNat)
 case atStart => exact ⟨0, by omega, rfl, rfl⟩
 case round =>
  obtain ⟨k, hk, rfl, rfl⟩ := hrel
  by_cases hlt : k < 7
  ·obtain rfl | rfl | rfl | rfl | rfl | rfl | rfl : k = 0 ∨ k = 1 ∨ k = 2 ∨ k = 3 ∨ k = 4 ∨ k = 5 ∨ k = 6 := by omega
   all_goals
    go_wp2_with fail
    refine (v0R _ _ (by omega) (by omega)).mono ?_
    rintro e w' ⟨rfl, rfl⟩
    go_wp2
    go_round
   case rel => exact ⟨1, by omega, by go_num, by rw [d0O, e0X, Nat.zero_add]; rfl⟩
   case measure => simp [intOf]
   case rel => exact ⟨2, by omega, by go_num, by rw [d0O, e0X]; rfl⟩
   case measure => simp [intOf]
   case rel => exact ⟨3, by omega, by go_num, by rw [d0O, e0X]; rfl⟩
   case measure => simp [intOf]
   case rel => exact ⟨4, by omega, by go_num, by rw [d0O, e0X]; rfl⟩
   case measure => simp [intOf]
   case rel => exact ⟨5, by omega, by go_num, by rw [d0O, e0X]; rfl⟩
   case measure => simp [intOf]
   case rel => exact ⟨6, by omega, by go_num, by rw [d0O, e0X]; rfl⟩
   case measure => simp [intOf]
   case rel => exact ⟨7, by omega, by go_num, by rw [d0O, e0X]; rfl⟩
   case measure => simp [intOf]
  ·go_wp2
   go_ret
   have : k = 7 := by omega
   subst this
   exact ⟨rfl, rfl⟩
end
section
open Go.RowKit Go.Mv Mvp
theorem f0a : (Tryz.prog.info? 171).map (·.size) = some 25 := by kernel_rfl
theorem s0W : (Tryz.prog.info? 3).map (fun i => (i.zero, i.size, i.bytes)) = some (some (.int .i64 0), 1, 8) := by kernel_rfl
theorem e0F (k : Nat) : a0v (k + 1) = e0Y (a0v k) k := by simp [a0v, List.range_succ]
theorem b0r (k : Nat) : (a0v k).length = 25 := by
 induction k with
 | zero => simp [a0v]
 | succ k ih => rw [e0F]; simp [e0Y, ih]
theorem q0l (w : World) :
  Calls Tryz.prog 123 #[] w fun e w' => e = .returned (.agg (is (a0v 24)).toArray) ∧ Fr Nob w w' := by
 go_enter Tryz.func123, Tryz.ntmps123
 go_wp2
 go_loopw [1, 2, 4] (fun x y i wr => ∃ k : Nat, k ≤ 24 ∧ i = .int .i64 k ∧ x = .int .i64 ((xy k).1 : Nat) ∧ y = .int .i64 ((xy k).2 : Nat) ∧ Has wr w.heap.size (is (a0v k)) 171 ∧ Fr Nob w wr) (fun _ _ i _ => (24 - intOf i).toNat)
 case atStart =>
  refine ⟨0, by omega, rfl, rfl, rfl, ?_, (Fr.refl _ _).alloc _⟩
  exact Has.new w _ _
 case round =>
  obtain ⟨k, hk, rfl, rfl, rfl, hh, hf⟩ := hrel
  have hxy := x0Q k
  by_cases hlt : k < 24
  ·obtain ⟨v0, hc, hfr⟩ := hh.ready (i := (xy k).1 + 5 * (xy k).2) (by rw [c0b, b0r]; omega)
   have hp : (0 : Int) ≤ ((k : Int) + 1) * ((k : Int) + 2) ∧ ((k : Int) + 1) * ((k : Int) + 2) ≤ 650 := by
    refine ⟨Int.mul_nonneg (by omega) (by omega), ?_⟩
    have := Int.mul_le_mul (show (k : Int) + 1 ≤ 24 by omega) (show (k : Int) + 2 ≤ 25 by omega) (by omega) (by omega)
    omega
   go_wp2
   go_roundw
   case rel =>
    refine ⟨k + 1, by omega, by go_num, rfl, by simp [xy], ?_, hf.setCell _ _ _ _ (fun h => absurd h (Nat.lt_irrefl _))⟩
    have e : ((k : Int) + 1) * ((k : Int) + 2) / 2 % 64 = (((k + 1) * (k + 2) / 2 % 64 : Nat) : Int) := by simp
    rw [e, e0F, e0Y, ← u0C]
    exact hh.set _ _
   case measure => simp [intOf]; omega
  ·go_wp2_with (first | (with_reducible refine wSk 27 ?_))
   have hk24 : k = 24 := by omega
   subst hk24
   refine b0E rfl rfl Tryz.underlying171 rfl hh (is (a0v 24)) (by simp) (by rw [c0b, b0r]; exact f0a) ?_
   go_wp2_with (first | (with_reducible refine e0D (o := ⟨none, .store 171 _ _, _, _, _, _⟩) ?_))
   refine d0Y rfl rfl rfl rfl hh (by simp) (by rw [c0b, b0r]; exact f0a) ?_ ?_
   ·intro v hv; simp [is] at hv; obtain ⟨x, _, rfl⟩ := hv; rfl
   intro w2 hh2 hf2 hz2
   go_wp2
   rw [b0Y _ _ rfl] at hh2
   exact bodyPost_ret (a0q rfl rfl hh2 Tryz.underlying171 (by rw [c0b, b0r]; exact f0a)) rfl ⟨rfl, hf.new hf2 (Nat.le_refl _)⟩
theorem l0U (w : World) :
  Calls Tryz.prog 117 #[] w fun e w' => e = .returned (.slice (some ⟨w.heap.size, 0, none⟩) 25 25) ∧ Has w' w.heap.size (is (a0v 24)) 3 ∧ Fr Nob w w' := by
 go_enter Tryz.func117, Tryz.ntmps117
 go_wp2_with (at_make; refine c0p rfl rfl Tryz.underlying165 s0W rfl rfl rfl 25 25 (by simp) (by simp) (by omega) (by omega) (by unfold maxLen; omega) ?_; intro w1 hw1 hf1 hz1)
 go_loopw [2, 3, 4] (fun x y i wr => ∃ k : Nat, k ≤ 24 ∧ i = .int .i64 k ∧ x = .int .i64 ((xy k).1 : Nat) ∧ y = .int .i64 ((xy k).2 : Nat) ∧ Has wr w.heap.size (is (a0v k)) 3 ∧ Fr Nob w wr) (fun _ _ i _ => (24 - intOf i).toNat)
 case atStart => exact ⟨0, by omega, rfl, rfl, rfl, hw1, hf1⟩
 case round =>
  obtain ⟨k, hk, rfl, rfl, rfl, hh, hf⟩ := hrel
  have hxy := x0Q k
  by_cases hlt : k < 24
  ·have hpl : a0W (xy k).1 (xy k).2 = (xy k).1 + 5 * (xy k).2 := by unfold a0W; rw [Nat.mod_eq_of_lt hxy.1, Nat.mod_eq_of_lt hxy.2]
   have HP := qH hpl; clear hpl
   have hpb : a0W (xy k).1 (xy k).2 < 25 := by rw [HP.out]; omega
   obtain ⟨v0, hc, hfr⟩ := hh.ready (i := a0W (xy k).1 (xy k).2) (by rw [c0b, b0r]; omega)
   have hp : (0 : Int) ≤ ((k : Int) + 1) * ((k : Int) + 2) ∧ ((k : Int) + 1) * ((k : Int) + 2) ≤ 650 := by
    refine ⟨Int.mul_nonneg (by omega) (by omega), ?_⟩
    have := Int.mul_le_mul (show (k : Int) + 1 ≤ 24 by omega) (show (k : Int) + 2 ≤ 25 by omega) (by omega) (by omega)
    omega
   go_wp2_with (go_at_call 128; refine (g0R _ _ _ (by omega) (by omega) (by omega) (by omega)).mono ?_; rintro e w' ⟨rfl, rfl⟩)
   go_roundw
   case rel =>
    refine ⟨k + 1, by omega, by go_num, rfl, by simp [xy], ?_, hf.setCell _ _ _ _ (fun h => absurd h (Nat.lt_irrefl _))⟩
    have e : ((k : Int) + 1) * ((k : Int) + 2) / 2 % 64 = (((k + 1) * (k + 2) / 2 % 64 : Nat) : Int) := by simp
    rw [e, e0F, e0Y, ← u0C, ← HP.out]
    exact hh.set _ _
   case measure => simp [intOf]; omega
  ·go_wp2
   have hk24 : k = 24 := by omega
   subst hk24
   go_ret
   exact ⟨rfl, hh, hf⟩
end
section
open Go.RowKit Go.Mv Mvp
theorem q0m (g : Nat) (S : List UInt64) (tail : List Value) (T : TypeId) (b : Option Addr) (n c : Nat) (l : List UInt8) (w : World) (hS : S.length = 25) (hn : n ≤ 200) (hg : Has w g (ws S ++ tail) T) (hb : RdB w b n l) (hbg : Off (One g) b) :
  Calls Tryz.prog 107 #[.pointer (some ⟨g, 0, none⟩), .slice b n c] w fun e w' => e = .returned (.tuple #[]) ∧ Has w' g (ws (e0Z S l n) ++ tail) T ∧ Fr (One g) w w' ∧ w'.heap.size = w.heap.size := by
 go_enter Tryz.func107, Tryz.ntmps107
 go_wp2
 go_loopw [8] (fun i wr => ∃ k : Nat, k ≤ n ∧ i = .int .i64 k ∧ Has wr g (ws (e0Z S l k) ++ tail) T ∧ Fr (One g) w wr ∧ wr.heap.size = w.heap.size) (fun i _ => (n - intOf i).toNat)
 case atStart => exact ⟨0, by omega, rfl, hg, Fr.refl _ _, rfl⟩
 case round =>
  obtain ⟨k, hk, rfl, hh, hf, hz⟩ := hrel
  by_cases hlt : k < n
  ·obtain ⟨bb, o, rfl, hcb0⟩ := (hb.keep hf hbg).at (by omega)
   have hcb := hcb0 k hlt
   clear hcb0
   have hlen := g0l S l k
   have hi8 : k / 8 < (ws (e0Z S l k)).length := by rw [a0L, hlen]; omega
   have hc : wr.cell? ⟨g, k / 8, none⟩ = some (.int .u64 (((e0Z S l k).getD (k / 8) 0).toNat : Int)) := hh.cell (by rw [List.getElem?_append_left hi8]; exact b0P _ _ (by rw [hlen]; omega))
   have hfr : wr.frozen? ⟨g, k / 8, none⟩ = false := hh.free _ (by rw [List.length_append]; omega)
   have hlo : (0 : Int) ≤ (k : Int) / 8 ∧ (k : Int) / 8 < 25 := by omega
   generalize hy : (e0Z S l k).getD (k / 8) 0 = y at hc
   generalize hx : l.getD k 0 = x at hcb
   have HY := qH hy; clear hy
   have HX := qH hx; clear hx
   have HL := qH hlen; clear hlen hi8
   have HZ := qH hz; clear hz
   go_wp2
   go_region
   all_goals go_wp2
   go_roundw
   case rel =>
    refine ⟨k + 1, by omega, by go_num, ?_, (hf.setCell _ _ _ _ (fun _ => rfl)).drew, by have := HZ.out; simpa [World.setCell] using this⟩
    have h1 := (hh.set (k / 8) (.int .u64 ((wx y (shl (wid x) (8 * (k % 8)))).toNat : Int))).drew
    rw [List.set_append_left _ _ (by rw [a0L, HL.out]; omega), e0u, ← HY.out, ← HX.out] at h1
    rw [e0g, b0S, ← HY.out, ← HX.out]
    exact h1
   case measure => simp [intOf]; omega
  ·go_wp2
   go_end0
   have : k = n := by omega
   subst this
   exact ⟨rfl, hh, hf, hz⟩
end
section
open Go.RowKit Go.Mv Mvp
theorem u0N (S : List UInt64) (n i : Nat) (h : i < n) : (toB S n).getD i 0 = d0z S i := by
 simp [toB, List.getD_eq_getElem?_getD, List.getElem?_range h]
theorem q0n (g : Nat) (S : List UInt64) (tail : List Value) (T : TypeId) (n : Nat) (w : World) (hS : S.length = 25) (hn : n ≤ 200) (hg : Has w g (ws S ++ tail) T) :
  Calls Tryz.prog 109 #[.pointer (some ⟨g, 0, none⟩), .int .i64 (n : Int)] w fun e w' => e = .returned (.slice (some ⟨w.heap.size, 0, none⟩) n n) ∧ Has w' w.heap.size (bs (toB S n)) 5 ∧ Fr Nob w w' ∧ w'.heap.size = w.heap.size + 1 := by
 go_enter Tryz.func109, Tryz.ntmps109
 go_wp2_with (at_make; refine c0p rfl rfl Tryz.underlying24 b0w rfl rfl rfl n n rfl rfl (by omega) (by omega) (by unfold maxLen; omega) ?_; intro w1 hw1 hf1 hz1)
 have hgl := hg.lt
 go_loopw [11] (fun i wr => ∃ k : Nat, k ≤ n ∧ i = .int .i64 k ∧ Has wr w.heap.size (bs (fill (toB S n) (List.replicate n 0) k)) 5 ∧ Has wr g (ws S ++ tail) T ∧ Fr Nob w wr ∧ wr.heap.size = w.heap.size + 1) (fun i _ => (n - intOf i).toNat)
 case atStart =>
  refine ⟨0, by omega, rfl, ?_, hg.keep hf1 id, hf1, hz1⟩
  rw [e0K]; simpa [bs] using hw1
 case round =>
  obtain ⟨k, hk, rfl, hh, hg2, hf, hz⟩ := hrel
  by_cases hlt : k < n
  ·obtain ⟨v0, hc0, hfr0⟩ := hh.ready (i := k) (by rw [a0H, b0W _ _ _ (by simp [a0X])]; simpa using hlt)
   have hi8 : k / 8 < (ws S).length := by rw [a0L, hS]; omega
   have hc : wr.cell? ⟨g, k / 8, none⟩ = some (.int .u64 ((S.getD (k / 8) 0).toNat : Int)) := hg2.cell (by rw [List.getElem?_append_left hi8]; exact b0P _ _ (by rw [hS]; omega))
   have hlo : (0 : Int) ≤ (k : Int) / 8 ∧ (k : Int) / 8 < 25 := by omega
   generalize hy : S.getD (k / 8) 0 = y at hc
   have HY := qH hy; clear hy
   have HS := qH hS; clear hS hi8
   have HZ := qH hz; clear hz hz1 hw1
   go_wp2
   go_roundw
   case rel =>
    have e : (toB S n).getD k 0 = lo8 (shr y (8 * (k % 8))) := by rw [u0N S n k hlt, d0z, HY.out]
    refine ⟨k + 1, by omega, by go_num, ?_, hg2.other _ _ _ (by omega), hf.setCell _ _ _ _ (fun h => absurd h (Nat.lt_irrefl _)), by have := HZ.out; simpa [World.setCell] using this⟩
    rw [← e]
    exact hh.fillB (by simp [a0X]) (by simpa [a0X] using hlt)
   case measure => simp [intOf]; omega
  ·go_wp2
   go_ret
   obtain rfl : k = n := by omega
   rw [e0L _ _ _ (by simp [a0X]) (by simp [a0X])] at hh
   exact ⟨rfl, hh, hf, hz⟩
end
section
open Go.RowKit Go.Mv Mvp
theorem k0o (s : List UInt64) (k : Nat) : n0h s (k + 1) = j0c s (n0h s k) k := by simp [n0h, List.range_succ]
theorem j0g (s : List UInt64) (k : Nat) : (n0h s k).length = 5 := by
 induction k with
 | zero => simp [n0h]
 | succ k ih => rw [k0o]; simp [j0c, ih]
theorem k0p (s c : List UInt64) (t : List Nat) (k : Nat) : o0q s c t (k + 1) = j0d s c t (o0q s c t k) k := by simp [o0q, List.range_succ]
theorem n0j (s c : List UInt64) (t : List Nat) (k : Nat) : (o0q s c t k).length = 25 := by
 induction k with
 | zero => simp [o0q]
 | succ k ih => rw [k0p]; simp [j0d, ih]
theorem q0o : (Tryz.prog.info? 171).map (·.zero) = some (some (.agg (is (List.replicate 25 0)).toArray)) := by kernel_rfl
theorem o0w : (Tryz.prog.info? 130).map (·.zero) = some (some (.agg (ws (List.replicate 25 0)).toArray)) := by kernel_rfl
theorem v0S : (Tryz.prog.info? 173).map (·.zero) = some (some (.agg (ws (List.replicate 5 0)).toArray)) := by kernel_rfl
theorem q0p : (Tryz.prog.info? 23).map (·.size) = some 1 := by kernel_rfl
theorem o0x (t : List Nat) (rc : Nat → UInt64) (s : List UInt64) : b0B t rc s 0 = s := by simp [b0B]
theorem q0q (m s : List UInt64) : k0k m s 0 = s := by simp [k0k]
theorem q0r (m s : List UInt64) (k : Nat) : k0k m s (k + 1) = d0y m (k0k m s k) (5 * k) 5 := by simp [k0k, List.range_succ]
theorem l0V (m s : List UInt64) (y : Nat) : d0y m s y 0 = s := by simp [d0y]
theorem g0S (m s : List UInt64) (y k : Nat) : d0y m s y (k + 1) = g0O m y (d0y m s y k) k := by simp [d0y, List.range_succ]
theorem o0y (m s : List UInt64) (y k : Nat) : (d0y m s y k).length = s.length := by
 induction k with
 | zero => simp [d0y]
 | succ k ih => rw [g0S]; simp [g0O, ih]
theorem n0k (k : Nat) : (a0v 24).getD k 0 < 64 := by
 have h : ∀ k, k < 25 → (a0v 24).getD k 0 < 64 := by decide +kernel
 rcases Nat.lt_or_ge k 25 with hk | hk
 ·exact h k hk
 ·rw [List.getD_eq_getElem?_getD, List.getElem?_eq_none (by rw [b0r]; exact hk)]; simp
theorem q0s (k : Nat) (hk : k < 25) : d0x k < 25 := by
 have h : ∀ k, k < 25 → d0x k < 25 := by decide +kernel
 exact h k hk
theorem l0W (k : Nat) (w : World) (hk : k ≤ 25) : Calls Tryz.prog 125 #[.int .i64 (k : Int)] w fun e w' => e = .returned (.int .i64 ((d0x k : Nat) : Int)) ∧ w' = w :=
 (o0t k w (by omega)).mono (fun _ _ h => ⟨h.1, h.2.symm⟩)
theorem s0X (x : UInt64) (n : Nat) (hn : n < 64) (w : World) : Calls Tryz.prog 124 #[.int .u64 (x.toNat : Int), .int .i64 (n : Int)] w fun e w' => e = .returned (.int .u64 ((l0E x n).toNat : Int)) ∧ w' = w :=
 (q0k x n hn w).mono (fun _ _ h => ⟨h.1, h.2.symm⟩)
theorem l0X (r : Nat) (hr : r < 24) (w : World) : Calls Tryz.prog 126 #[.int .i64 (r : Int)] w fun e w' => e = .returned (.int .u64 ((rcP r 8).toNat : Int)) ∧ w' = w :=
 (o0u r hr w).mono (fun _ _ h => ⟨h.1, h.2.symm⟩)
theorem s0Y (x : UInt64) (w : World) : Calls Tryz.prog 124 #[.int .u64 (x.toNat : Int), .int .i64 1] w fun e w' => e = .returned (.int .u64 ((l0E x 1).toNat : Int)) ∧ w' = w :=
 (q0k x 1 (by omega) w).mono (fun _ _ h => ⟨h.1, h.2.symm⟩)
theorem l0Y (g : Nat) (S : List UInt64) (tail : List Value) (T : TypeId) (w : World) (hS : S.length = 25) (hg : Has w g (ws S ++ tail) T) :
  Calls Tryz.prog 108 #[.pointer (some ⟨g, 0, none⟩)] w fun e w' => e = .returned (.tuple #[]) ∧ Has w' g (ws (b0B (a0v 24) (fun r => rcP r 8) S 24) ++ tail) T ∧ Fr (One g) w w' := by
 go_enter Tryz.func108, Tryz.ntmps108
 go_wp2_with (first
  | (go_at_call 123; refine (q0l _).mono ?_; rintro e w1 ⟨rfl, hf1⟩)
  | (with_reducible refine e0D (o := ⟨_, .alloc 171, _, _, _, _⟩) ?_))
 have hgl := hg.lt
 refine e0l rfl rfl q0o (is (List.replicate 25 0)) (by simp [Value.cells]) ?_
 intro w2 hb2 hf2 hz2
 have hg2 := (hg.keep hf1 id).keep hf2 id
 have hgs := hf1.size
 generalize hbt : w1.heap.size = bt at *
 go_wp2_with (with_reducible refine e0D (o := ⟨none, .store 171 _ _, _, _, _, _⟩) ?_)
 refine d0Y rfl rfl rfl rfl hb2 (by simp [c0b, b0r]) (by rw [c0b, b0r]; exact f0a) ?_ ?_
 ·intro v hv; simp [is] at hv; obtain ⟨x, _, rfl⟩ := hv; rfl
 intro w3 hb3 hf3 hz3
 rw [b0Y _ _ (by simp [c0b, b0r])] at hb3
 have hg3 := hg2.keep hf3 (fun (h : g = bt) => by omega)
 have hfr : Fr (One g) w w3 := ((Fr.refl (One g) w).same hf1).same hf2 |>.new hf3 (by omega)
 clear hb2 hg2 hf1 hf2 hf3 hg
 go_wp2_with fail
 go_loopw [15] (fun i wr => ∃ r : Nat, r ≤ 24 ∧ i = .int .i64 r ∧ Has wr g (ws (b0B (a0v 24) (fun r => rcP r 8) S r) ++ tail) T ∧ Has wr bt (is (a0v 24)) 171 ∧ Fr (One g) w wr) (fun i _ => (24 - intOf i).toNat)
 case atStart => exact ⟨0, by omega, rfl, by rw [o0x]; exact hg3, hb3, hfr⟩
 case round =>
  obtain ⟨r, hr, rfl, hgr, hbr, hf⟩ := hrel
  clear hg3 hb3 hfr
  by_cases hlt : r < 24
  ·have hltI : (r : Int) < 24 := by omega
   have hpl := g0Q (a0v 24) (fun r => rcP r 8) S r
   rw [hS] at hpl
   generalize hrs : b0B (a0v 24) (fun r => rcP r 8) S r = s at *
   have HR := qH hrs; clear hrs
   go_wp2_with (with_reducible refine e0D (o := ⟨_, .alloc 173, _, _, _, _⟩) ?_)
   refine e0l rfl rfl v0S (ws (List.replicate 5 0)) (by simp [Value.cells]) ?_
   intro w4 hc4 hf4 hz4
   have hg4 := hgr.keep hf4 id
   have hb4 := hbr.keep hf4 id
   have hfr4 := hf.same hf4
   have hgc := hgr.lt
   have hbc := hbr.lt
   have hwc := hf.size
   generalize wr.heap.size = gc at *
   clear hgr hbr hf hf4 hz4
   go_wp2_with fail
   go_loopw [19] (fun i wr => ∃ k : Nat, k ≤ 25 ∧ i = .int .i64 k ∧ Has wr gc (ws (n0h s k)) 173 ∧ Has wr g (ws s ++ tail) T ∧ Has wr bt (is (a0v 24)) 171 ∧ Fr (One g) w wr) (fun i _ => (25 - intOf i).toNat)
   case atStart => exact ⟨0, by omega, rfl, hc4, hg4, hb4, hfr4⟩
   case round =>
    obtain ⟨k, hk, rfl, hck, hgk, hbk, hf⟩ := hrel
    clear hc4 hg4 hb4 hfr4
    by_cases hlt2 : k < 25
    ·have hs : wr.cell? ⟨g, k, none⟩ = some (.int .u64 ((s.getD k 0).toNat : Int)) := hgk.cell (by rw [List.getElem?_append_left (by rw [a0L, hpl]; exact hlt2)]; exact b0P _ _ (by rw [hpl]; exact hlt2))
     have hc : wr.cell? ⟨gc, k % 5, none⟩ = some (.int .u64 (((n0h s k).getD (k % 5) 0).toNat : Int)) := hck.cell (b0P _ _ (by rw [j0g]; omega))
     have hfc : wr.frozen? ⟨gc, k % 5, none⟩ = false := hck.free _ (by rw [a0L, j0g]; omega)
     have hlo : (0 : Int) ≤ (k : Int) ∧ (k : Int) < 25 ∧ (0 : Int) ≤ (k : Int) % 5 ∧ (k : Int) % 5 < 5 := by omega
     generalize hx : s.getD k 0 = x at hs
     generalize hy : (n0h s k).getD (k % 5) 0 = y at hc
     have HX := qH hx; clear hx
     have HY := qH hy; clear hy
     have HS := qH hpl; clear hpl
     have HS2 := qH hS; clear hS
     go_wp2
     go_region
     all_goals go_wp2
     go_roundw
     case rel =>
      have e : n0h s (k + 1) = (n0h s k).set (k % 5) (wx y x) := by rw [k0o, j0c, HX.out, HY.out]; rfl
      refine ⟨k + 1, by omega, by go_num, ?_, (hgk.other _ _ _ (by omega)).drew, (hbk.other _ _ _ (by omega)).drew, (hf.setCell _ _ _ _ (fun h => by omega)).drew⟩
      rw [e, ← e0u]
      exact (hck.set _ _).drew
     case measure => simp [intOf]; omega
    ·have hk25 : k = 25 := by omega
     subst hk25
     go_wp2_with (with_reducible refine e0D (o := ⟨_, .alloc 130, _, _, _, _⟩) ?_)
     refine e0l rfl rfl o0w (ws (List.replicate 25 0)) (by simp [Value.cells]) ?_
     intro w5 hm5 hf5 hz5
     have hc5 := hck.keep hf5 id
     have hg5 := hgk.keep hf5 id
     have hb5 := hbk.keep hf5 id
     have hfr5 := hf.same hf5
     have hcm := hck.lt
     have hgm := hgk.lt
     have hbm := hbk.lt
     have hwm := hf.size
     generalize wr.heap.size = gm at *
     generalize hcol : n0h s 25 = col at *
     clear hck hgk hbk hf hf5 hz5
     have hcl : col.length = 5 := by rw [← hcol, j0g]
     have HC := qH hcol; clear hcol
     have HCL := qH hcl; clear hcl
     go_wp2_with fail
     go_loopw [34] (fun i wr => ∃ k : Nat, k ≤ 25 ∧ i = .int .i64 k ∧ Has wr gm (ws (o0q s col (a0v 24) k)) 130 ∧ Has wr gc (ws col) 173 ∧ Has wr g (ws s ++ tail) T ∧ Has wr bt (is (a0v 24)) 171 ∧ Fr (One g) w wr) (fun i _ => (25 - intOf i).toNat)
     case atStart => exact ⟨0, by omega, rfl, hm5, hc5, hg5, hb5, hfr5⟩
     case round =>
      obtain ⟨k, hk, rfl, hmk, hck, hgk, hbk, hf⟩ := hrel
      clear hm5 hc5 hg5 hb5 hfr5
      by_cases hlt3 : k < 25
      ·have hs : wr.cell? ⟨g, k, none⟩ = some (.int .u64 ((s.getD k 0).toNat : Int)) := hgk.cell (by rw [List.getElem?_append_left (by rw [a0L, hpl]; exact hlt3)]; exact b0P _ _ (by rw [hpl]; exact hlt3))
       have hc4 : wr.cell? ⟨gc, (k + 4) % 5, none⟩ = some (.int .u64 ((col.getD ((k + 4) % 5) 0).toNat : Int)) := hck.cell (b0P _ _ (by rw [HCL.out]; omega))
       have hc1 : wr.cell? ⟨gc, (k + 1) % 5, none⟩ = some (.int .u64 ((col.getD ((k + 1) % 5) 0).toNat : Int)) := hck.cell (b0P _ _ (by rw [HCL.out]; omega))
       have hby : wr.cell? ⟨bt, k, none⟩ = some (.int .i64 (((a0v 24).getD k 0 : Nat) : Int)) := hbk.cell (u0B _ _ (by rw [b0r]; exact hlt3))
       have hbl : (a0v 24).getD k 0 < 64 := n0k k
       have hgt : d0x k < 25 := q0s k hlt3
       obtain ⟨v0, hcm0, hfm0⟩ := hmk.ready (i := d0x k) (by rw [a0L, n0j]; exact hgt)
       have hlo : (0 : Int) ≤ (k : Int) ∧ (k : Int) < 25 ∧ (0 : Int) ≤ ((k : Int) + 4) % 5 ∧ ((k : Int) + 4) % 5 < 5 ∧ (0 : Int) ≤ ((k : Int) + 1) % 5 ∧ ((k : Int) + 1) % 5 < 5 := by omega
       generalize hx : s.getD k 0 = x at hs
       generalize hy4 : col.getD ((k + 4) % 5) 0 = y4 at hc4
       generalize hy1 : col.getD ((k + 1) % 5) 0 = y1 at hc1
       generalize hn : (a0v 24).getD k 0 = n at hby hbl
       have HX := qH hx; clear hx
       have HY4 := qH hy4; clear hy4
       have HY1 := qH hy1; clear hy1
       have HN := qH hn; clear hn
       have HS := qH hpl; clear hpl
       have HS2 := qH hS; clear hS
       go_wp2
       go_region
       all_goals go_wp2
       have e1 : IntKind.i64.wrap ((k : Int) + 4) = (k : Int) + 4 := IntWalk.i64_in _ (by omega)
       have e2 : ((k : Int) + 4).tmod 5 = ((k : Int) + 4) % 5 := Int.tmod_eq_emod_of_nonneg (by omega)
       have e3 : (((k : Int) + 4) % 5).toNat = (k + 4) % 5 := by omega
       have e4 : IntKind.i64.wrap ((k : Int) + 1) = (k : Int) + 1 := IntWalk.i64_in _ (by omega)
       have e5 : ((k : Int) + 1).tmod 5 = ((k : Int) + 1) % 5 := Int.tmod_eq_emod_of_nonneg (by omega)
       have e6 : (((k : Int) + 1) % 5).toNat = (k + 1) % 5 := by omega
       go_quiet ((go_at_call 124; exact n0X (s0Y _ _)))
       clear e1 e2 e3 e4 e5 e6
       go_wp2_with fail
       have HG := qH hgt; clear hgt
       have hgi : (0 : Int) ≤ (d0x k : Int) ∧ (d0x k : Int) < 25 := by have := HG.out; omega
       have hmz := hmk.drew.drewN nq
       have hcz := hck.drew.drewN nq
       have hgz := hgk.drew.drewN nq
       have hbz := hbk.drew.drewN nq
       have hfz := hf.drew.drewN nq
       have hbyz : (wr.drew.drewN nq).cell? ⟨bt, k, none⟩ = some (.int .i64 (n : Int)) := hby
       have hmcz : (wr.drew.drewN nq).cell? ⟨gm, d0x k, none⟩ = some v0 := hcm0
       have hmfz : (wr.drew.drewN nq).frozen? ⟨gm, d0x k, none⟩ = false := hfm0
       clear hmk hck hgk hbk hf hby hcm0 hfm0 hs hc4 hc1
       generalize wr.drew.drewN nq = wz at *
       clear wr
       refine wp_region_still_tail 8 (by kernel_rfl) (by kernel_rfl) ?_
       simp only [List.take_succ_cons, List.take_zero, List.drop_succ_cons, List.drop_zero]
       repeat still_step
       still_call (l0W k _ hk)
       repeat still_step
       still_call (s0X _ n hbl _)
       repeat still_step
       refine wpStill_nil ?_
       go_wp2
       go_roundw
       case rel =>
        have e : o0q s col (a0v 24) (k + 1) = (o0q s col (a0v 24) k).set (d0x k) (l0E (wx x (wx y4 (l0E y1 1))) n) := by
         rw [k0p, j0d, HX.out, HY4.out, HY1.out, HN.out]; rfl
        refine ⟨k + 1, by omega, by go_num, ?_, (hcz.other _ _ _ (by omega)).drew, (hgz.other _ _ _ (by omega)).drew, (hbz.other _ _ _ (by omega)).drew, (hfz.setCell _ _ _ _ (fun h => by omega)).drew⟩
        rw [e, ← e0u]
        exact (hmz.set _ _).drew
       case measure => simp [intOf]; omega
      ·obtain rfl : k = 25 := by omega
       have hml := n0j s col (a0v 24) 25
       have hmw : o0q s col (a0v 24) 25 = o0q s (n0h s 25) (a0v 24) 25 := by rw [HC.out]
       generalize hmv : o0q s col (a0v 24) 25 = mv at *
       have HM := qH hmw; clear hmw hmv
       have HML := qH hml; clear hml
       have HPL := qH hpl; clear hpl
       have HS2 := qH hS; clear hS
       clear hck
       go_wp2_with fail
       go_loopw [10] (fun i wr => ∃ j : Nat, j ≤ 5 ∧ i = .int .i64 ((5 * j : Nat) : Int) ∧ Has wr gm (ws mv) 130 ∧ Has wr g (ws (k0k mv s j) ++ tail) T ∧ Has wr bt (is (a0v 24)) 171 ∧ Fr (One g) w wr) (fun i _ => (25 - intOf i).toNat)
       case atStart => exact ⟨0, by omega, rfl, hmk, by rw [q0q]; exact hgk, hbk, hf⟩
       case round =>
        obtain ⟨j, hj, rfl, hmj, hgj, hbj, hfj⟩ := hrel
        clear hmk hgk hbk hf
        by_cases hlt4 : j < 5
        ·have hlo : (0 : Int) ≤ 5 * (j : Int) ∧ 5 * (j : Int) < 25 ∧ 5 * (j : Int) ≤ 20 := by omega
         obtain ⟨wo, rfl⟩ : ∃ wo : World, wo = wr := ⟨_, rfl⟩
         go_wp2_with (with_reducible refine wSk 72 ?_)
         refine v0z rfl rfl Tryz.underlying130 q0p rfl rfl rfl rfl (5 * j) (5 * j + 5) (5 * j + 5) (by simp) (by simp) (by simp) (by omega) (by omega) (by omega) (by omega) ?_
         have e5 : 5 * j + 5 - 5 * j = 5 := by omega
         rw [e5]
         clear e5
         go_wp2_with fail
         go_loopw [75] (fun i wr => ∃ x : Nat, x ≤ 5 ∧ i = .int .i64 x ∧ Has wr gm (ws mv) 130 ∧ Has wr g (ws (d0y mv (k0k mv s j) (5 * j) x) ++ tail) T ∧ Has wr bt (is (a0v 24)) 171 ∧ Fr (One g) w wr) (fun i _ => (5 - intOf i).toNat)
         case atStart => exact ⟨0, by omega, rfl, hmj, by rw [l0V]; exact hgj, hbj, hfj⟩
         case round =>
          obtain ⟨x, hx, rfl, hmx, hgx, hbx, hfx⟩ := hrel
          clear hmj hgj hbj hfj
          by_cases hlt5 : x < 5
          ·have hml : mv.length = 25 := HML.out
           have hsl : (d0y mv (k0k mv s j) (5 * j) x).length = 25 := by rw [o0y, j0e]; exact HPL.out
           have hx0 : wr.cell? ⟨gm, 5 * j + x, none⟩ = some (.int .u64 ((mv.getD (5 * j + x) 0).toNat : Int)) := hmx.cell (b0P _ _ (by omega))
           have hx1 : wr.cell? ⟨gm, 5 * j + (x + 1) % 5, none⟩ = some (.int .u64 ((mv.getD (5 * j + (x + 1) % 5) 0).toNat : Int)) := hmx.cell (b0P _ _ (by omega))
           have hx2 : wr.cell? ⟨gm, 5 * j + (x + 2) % 5, none⟩ = some (.int .u64 ((mv.getD (5 * j + (x + 2) % 5) 0).toNat : Int)) := hmx.cell (b0P _ _ (by omega))
           obtain ⟨v0, hc0, hf0⟩ := hgx.ready (i := 5 * j + x) (by rw [List.length_append, a0L, hsl]; omega)
           have hlo5 : (0 : Int) ≤ (x : Int) ∧ (x : Int) < 5 ∧ (0 : Int) ≤ ((x : Int) + 1) % 5 ∧ ((x : Int) + 1) % 5 < 5 ∧ (0 : Int) ≤ ((x : Int) + 2) % 5 ∧ ((x : Int) + 2) % 5 < 5 := by omega
           have hlo6 : (0 : Int) ≤ 5 * (j : Int) + (x : Int) ∧ 5 * (j : Int) + (x : Int) < 25 := by omega
           generalize hy0 : mv.getD (5 * j + x) 0 = y0 at hx0
           generalize hy1 : mv.getD (5 * j + (x + 1) % 5) 0 = y1 at hx1
           generalize hy2 : mv.getD (5 * j + (x + 2) % 5) 0 = y2 at hx2
           have HY0 := qH hy0; clear hy0
           have HY1 := qH hy1; clear hy1
           have HY2 := qH hy2; clear hy2
           have HSL := qH hsl; clear hsl hml
           go_wp2_with fail
           have e1 : IntKind.i64.wrap ((x : Int) + 1) = (x : Int) + 1 := IntWalk.i64_in _ (by omega)
           have e2 : ((x : Int) + 1).tmod 5 = ((x : Int) + 1) % 5 := Int.tmod_eq_emod_of_nonneg (by omega)
           have e3 : (((x : Int) + 1) % 5).toNat = (x + 1) % 5 := by omega
           have e4 : IntKind.i64.wrap ((x : Int) + 2) = (x : Int) + 2 := IntWalk.i64_in _ (by omega)
           have e5 : ((x : Int) + 2).tmod 5 = ((x : Int) + 2) % 5 := Int.tmod_eq_emod_of_nonneg (by omega)
           have e6 : (((x : Int) + 2) % 5).toNat = (x + 2) % 5 := by omega
           have e7 : IntKind.i64.wrap (5 * (j : Int) + (x : Int)) = 5 * (j : Int) + (x : Int) := IntWalk.i64_in _ (by omega)
           have e8 : (5 * (j : Int) + (x : Int)).toNat = 5 * j + x := by omega
           refine wp_region_still_tail 22 (by kernel_rfl) (by kernel_rfl) ?_
           simp only [List.take_succ_cons, List.take_zero, List.drop_succ_cons, List.drop_zero]
           repeat still_step
           refine wpStill_nil ?_
           go_wp2
           go_roundw
           case rel =>
            have e : d0y mv (k0k mv s j) (5 * j) (x + 1) = (d0y mv (k0k mv s j) (5 * j) x).set (5 * j + x) (wx y0 (wa (wn y1) y2)) := by
             rw [g0S, g0O, HY0.out, HY1.out, HY2.out]; rfl
            refine ⟨x + 1, by omega, by go_num, (hmx.other _ _ _ (by omega)).drew, ?_, (hbx.other _ _ _ (by omega)).drew, (hfx.setCell _ _ _ _ (fun _ => rfl)).drew⟩
            rw [e, ← e0u, ← List.set_append_left _ _ (by rw [a0L, HSL.out]; omega)]
            exact (hgx.set _ _).drew
           case measure => simp [intOf]; omega
          ·have hge : ¬ ((x : Int) < 5) := by omega
           have hx5 : x = 5 := by omega
           have HX5 := qH hx5; clear hx5
           go_wp2_with fail
           go_roundw
           case rel => exact ⟨j + 1, by omega, by omega, by rw [q0r]; rw [HX5.out] at hgx; exact hgx⟩
           case measure => simp [intOf]; omega
        ·have hge : ¬ (5 * (j : Int) < 25) := by omega
         have hj5 : j = 5 := by omega
         have HJ5 := qH hj5; clear hj5
         have hsl : (k0k mv s j).length = 25 := by rw [j0e]; exact HPL.out
         have hc0 : wr.cell? ⟨g, 0, none⟩ = some (.int .u64 (((k0k mv s j).getD 0 0).toNat : Int)) := hgj.cell (by rw [List.getElem?_append_left (by rw [a0L, hsl]; omega)]; exact b0P _ _ (by rw [hsl]; omega))
         have hf0 : wr.frozen? ⟨g, 0, none⟩ = false := hgj.free _ (by rw [List.length_append, a0L, hsl]; omega)
         generalize hy : (k0k mv s j).getD 0 0 = y at hc0
         have HY := qH hy; clear hy
         have HSL := qH hsl; clear hsl
         go_wp2_with fail
         refine wp_region_still_tail 9 (by kernel_rfl) (by kernel_rfl) ?_
         simp only [List.take_succ_cons, List.take_zero, List.drop_succ_cons, List.drop_zero]
         repeat still_step
         still_call (l0X r hlt _)
         repeat still_step
         refine wpStill_nil ?_
         go_wp2
         go_roundw
         case rel =>
          have e : b0B (a0v 24) (fun r => rcP r 8) S (r + 1) = (k0k mv s j).set 0 (wx y (rcP r 8)) := by
           rw [f0y, HR.out, g0P, ← HM.out, ← HJ5.out, HY.out]; rfl
          refine ⟨r + 1, by omega, by go_num, ?_, (hbj.other _ _ _ (by omega)).drew, (hfj.setCell _ _ _ _ (fun _ => rfl)).drew⟩
          rw [e, ← e0u, ← List.set_append_left _ _ (by rw [a0L, HSL.out]; omega)]
          exact (hgj.set _ _).drew
         case measure => simp [intOf]; omega
  ·obtain rfl : r = 24 := by omega
   go_wp2_with fail
   go_end0
   exact ⟨rfl, hgr, hf⟩
end
section
open Go.RowKit Go.Mv Mvp
theorem k0q (s : List UInt64) (k : Nat) : h0M s (k + 1) = b0X s (h0M s k) k 5 := by simp [h0M, List.range_succ]
theorem k0r (s c : List UInt64) (x : Nat) : b0X s c x 0 = c := by simp [b0X]
theorem f0P (s c : List UInt64) (x k : Nat) : b0X s c x (k + 1) = g0i s x (b0X s c x k) k := by simp [b0X, List.range_succ]
theorem g0T (s c : List UInt64) (x k : Nat) : (b0X s c x k).length = c.length := by
 induction k with
 | zero => simp [b0X]
 | succ k ih => rw [f0P]; simp [g0i, ih]
theorem n0l (s : List UInt64) (k : Nat) : (h0M s k).length = 5 := by
 induction k with
 | zero => simp [h0M]
 | succ k ih => rw [k0q, g0T, ih]
theorem q0t (s : List UInt64) : h0M s 0 = List.replicate 5 0 := by simp [h0M]
theorem k0s (s : List UInt64) (t : List Nat) (c : List UInt64) (k : Nat) : k0l s t c (k + 1) = c0G s t (k0l s t c k) k (dR c k) 5 := by simp [k0l, List.range_succ]
theorem k0t (s : List UInt64) (t : List Nat) (m : List UInt64) (x : Nat) (d : UInt64) : c0G s t m x d 0 = m := by simp [c0G]
theorem f0Q (s : List UInt64) (t : List Nat) (m : List UInt64) (x : Nat) (d : UInt64) (k : Nat) : c0G s t m x d (k + 1) = g0j s t x d (c0G s t m x d k) k := by simp [c0G, List.range_succ]
theorem g0U (s : List UInt64) (t : List Nat) (m : List UInt64) (x : Nat) (d : UInt64) (k : Nat) : (c0G s t m x d k).length = m.length := by
 induction k with
 | zero => simp [c0G]
 | succ k ih => rw [f0Q]; simp [g0j, ih]
theorem n0m (s : List UInt64) (t : List Nat) (c : List UInt64) (k : Nat) : (k0l s t c k).length = 25 := by
 induction k with
 | zero => simp [k0l]
 | succ k ih => rw [k0s, g0U, ih]
theorem k0u (m : List UInt64) (k : Nat) : k0m m (k + 1) = c0H m (k0m m k) k 5 := by simp [k0m, List.range_succ]
theorem k0v (m o : List UInt64) (x : Nat) : c0H m o x 0 = o := by simp [c0H]
theorem f0R (m o : List UInt64) (x k : Nat) : c0H m o x (k + 1) = g0k m x (c0H m o x k) k := by simp [c0H, List.range_succ]
theorem g0V (m o : List UInt64) (x k : Nat) : (c0H m o x k).length = o.length := by
 induction k with
 | zero => simp [c0H]
 | succ k ih => rw [f0R]; simp [g0k, ih]
theorem j0h (m : List UInt64) (k : Nat) : (k0m m k).length = 25 := by
 induction k with
 | zero => simp [k0m]
 | succ k ih => rw [k0u, g0V, ih]
theorem c0P (x y : Nat) : a0W x y < 25 := by unfold a0W; omega
theorem g0m : (Tryz.prog.info? 23).map (fun i => (i.zero, i.size, i.bytes)) = some (some (.int .u64 0), 1, 8) := by kernel_rfl
theorem c0R (x y : Nat) (w : World) (hx : x ≤ 200) (hy : y ≤ 200) : Calls Tryz.prog 128 #[.int .i64 (x : Int), .int .i64 (y : Int)] w fun e w' => e = .returned (.int .i64 ((a0W x y : Nat) : Int)) ∧ w' = w :=
 (g0R x y w (by omega) (by omega) (by omega) (by omega)).mono (fun _ _ h => ⟨h.1, h.2.symm⟩)
theorem o0z (x y : Nat) (w : World) (hx : x ≤ 100) (hy : y ≤ 100) : Calls Tryz.prog 128 #[.int .i64 (y : Int), .int .i64 (2 * (x : Int) + 3 * (y : Int))] w fun e w' => e = .returned (.int .i64 ((a0W y (2 * x + 3 * y) : Nat) : Int)) ∧ w' = w := by
 refine (g0R (y : Int) (2 * (x : Int) + 3 * (y : Int)) w (by omega) (by omega) (by omega) (by omega)).mono (fun e w' h => ⟨h.1.trans ?_, h.2.symm⟩)
 have e1 : (2 * (x : Int) + 3 * (y : Int)).toNat = 2 * x + 3 * y := by omega
 rw [e1, Int.toNat_natCast]
theorem v0T (x y : Nat) (w : World) (hx : x ≤ 100) (hy : y ≤ 100) : Calls Tryz.prog 128 #[.int .i64 ((x : Int) + 1), .int .i64 (y : Int)] w fun e w' => e = .returned (.int .i64 ((a0W (x + 1) y : Nat) : Int)) ∧ w' = w := c0R (x + 1) y w (by omega) (by omega)
theorem v0U (x y : Nat) (w : World) (hx : x ≤ 100) (hy : y ≤ 100) : Calls Tryz.prog 128 #[.int .i64 ((x : Int) + 2), .int .i64 (y : Int)] w fun e w' => e = .returned (.int .i64 ((a0W (x + 2) y : Nat) : Int)) ∧ w' = w := c0R (x + 2) y w (by omega) (by omega)
theorem q0u (x : UInt64) (w : World) : Calls Tryz.prog 129 #[.int .u64 (x.toNat : Int), .int .i64 1] w fun e w' => e = .returned (.int .u64 ((l0E x 1).toNat : Int)) ∧ ∃ n, w' = w.drewN n := n0i x 1 (by omega) w
theorem q0v (aa ta : Option Addr) (na ca ct : Nat) (S : List UInt64) (c : UInt64) (w : World) (hna : na = 25) (ha : Rd w aa na (ws S)) (ht : Rd w ta 25 (is (a0v 24))) :
  Calls Tryz.prog 118 #[.slice aa na ca, .slice ta 25 ct, .int .u64 (c.toNat : Int)] w fun e w' => ∃ g, e = .returned (.slice (some ⟨g, 0, none⟩) 25 25) ∧ w.heap.size ≤ g ∧ Has w' g (ws (e0W (a0v 24) S c)) 23 ∧ Fr Nob w w' := by
 subst hna
 have hS : S.length = 25 := by have := ha.len; rwa [a0L] at this
 go_enter Tryz.func118, Tryz.ntmps118
 go_wp2_with (at_make; refine c0p rfl rfl Tryz.underlying159 g0m rfl rfl rfl 5 5 (by simp) (by simp) (by omega) (by omega) (by unfold maxLen; omega) ?_; intro w1 hw1 hf1 hz1)
 have hc1 : Has w1 w.heap.size (ws (h0M S 0)) 23 := by rw [q0t]; exact hw1
 generalize hgc : w.heap.size = gc at *
 clear hw1
 go_loopw [8] (fun i wr => ∃ x : Nat, x ≤ 5 ∧ i = .int .i64 x ∧ Has wr gc (ws (h0M S x)) 23 ∧ Fr Nob w wr) (fun i _ => (5 - intOf i).toNat)
 case atStart => exact ⟨0, by omega, rfl, hc1, hf1⟩
 case round =>
  obtain ⟨x, hx, rfl, hcx, hfx⟩ := hrel
  clear hc1 hf1
  by_cases hlt : x < 5
  ·have hltI : (x : Int) < 5 := by omega
   obtain ⟨wo, rfl⟩ : ∃ wo : World, wo = wr := ⟨_, rfl⟩
   go_wp2_with fail
   go_loopw [9] (fun i wr => ∃ y : Nat, y ≤ 5 ∧ i = .int .i64 y ∧ Has wr gc (ws (b0X S (h0M S x) x y)) 23 ∧ Fr Nob w wr) (fun i _ => (5 - intOf i).toNat)
   case atStart => exact ⟨0, by omega, rfl, by rw [k0r]; exact hcx, hfx⟩
   case round =>
    obtain ⟨y, hy, rfl, hcy, hfy⟩ := hrel
    clear hcx hfx
    by_cases hlt2 : y < 5
    ·have hlt2I : (y : Int) < 5 := by omega
     obtain ⟨b, o, rfl, hat⟩ := (ha.still hfy).at (by omega)
     have hs : wr.cell? ⟨b, o + a0W x y, none⟩ = some (.int .u64 ((S.getD (a0W x y) 0).toNat : Int)) := hat _ _ (b0P _ _ (by rw [hS]; exact c0P x y))
     have hsl : (b0X S (h0M S x) x y).length = 5 := by rw [g0T, n0l]
     have hc : wr.cell? ⟨gc, x, none⟩ = some (.int .u64 (((b0X S (h0M S x) x y).getD x 0).toNat : Int)) := hcy.cell (b0P _ _ (by rw [hsl]; exact hlt))
     have hf : wr.frozen? ⟨gc, x, none⟩ = false := hcy.free _ (by rw [a0L, hsl]; exact hlt)
     have hpl : (0 : Int) ≤ (a0W x y : Int) ∧ (a0W x y : Int) < 25 := by have := c0P x y; omega
     generalize hu : S.getD (a0W x y) 0 = u at hs
     generalize hv : (b0X S (h0M S x) x y).getD x 0 = v at hc
     have HU := qH hu; clear hu
     have HV := qH hv; clear hv
     have HSL := qH hsl; clear hsl
     have HS := qH hS; clear hS
     clear hat
     have HGC := qH hgc; clear hgc
     go_wp2_with fail
     refine wp_region_still_tail 14 (by kernel_rfl) (by kernel_rfl) ?_
     simp only [List.take_succ_cons, List.take_zero, List.drop_succ_cons, List.drop_zero]
     repeat still_step
     still_call (c0R x y _ (by omega) (by omega))
     repeat still_step
     refine wpStill_nil ?_
     go_wp2
     go_roundw
     case rel =>
      have e : b0X S (h0M S x) x (y + 1) = (b0X S (h0M S x) x y).set x (wx v u) := by rw [f0P, g0i, HU.out, HV.out]; rfl
      refine ⟨y + 1, by omega, by go_num, ?_, (hfy.setCell _ _ _ _ (fun h => by have := HGC.out; omega)).drew⟩
      rw [e, ← e0u]
      exact (hcy.set _ _).drew
     case measure => simp [intOf]; omega
    ·have hge : ¬ ((y : Int) < 5) := by omega
     have hy5 : y = 5 := by omega
     have HY := qH hy5; clear hy5
     go_wp2_with fail
     go_roundw
     case rel =>
      rw [HY.out, ← k0q] at hcy
      first
       | exact ⟨x + 1, by omega, by go_num, hcy, hfy⟩
       | exact ⟨x + 1, by omega, by omega, hcy⟩
     case measure => simp [intOf]; omega
  ·have hge : ¬ ((x : Int) < 5) := by omega
   have hx5 : x = 5 := by omega
   have hcl : (h0M S x).length = 5 := n0l S x
   have hcol : h0M S x = h0M S 5 := by rw [hx5]
   generalize h0M S x = col at *
   have HCOL := qH hcol; clear hcol hx5
   go_wp2_with (at_make; refine c0p rfl rfl Tryz.underlying159 g0m rfl rfl rfl 25 25 (by simp) (by simp) (by omega) (by omega) (by unfold maxLen; omega) ?_; intro w2 hw2 hf2 hz2)
   have hm2 : Has w2 wr.heap.size (ws (k0l S (a0v 24) col 0)) 23 := by simpa [k0l, ws] using hw2
   have hgm : gc < wr.heap.size := hcx.lt
   have hc2 := hcx.keep hf2 id
   have hfr2 := hfx.same hf2
   have hwm : gc ≤ wr.heap.size := by have := hfx.size; omega
   generalize wr.heap.size = gm at *
   clear hw2 hf2 hz2 hcx hfx
   go_wp2_with fail
   go_loopw [11] (fun i wr => ∃ x : Nat, x ≤ 5 ∧ i = .int .i64 x ∧ Has wr gc (ws col) 23 ∧ Has wr gm (ws (k0l S (a0v 24) col x)) 23 ∧ Fr Nob w wr) (fun i _ => (5 - intOf i).toNat)
   case atStart => exact ⟨0, by omega, rfl, hc2, hm2, hfr2⟩
   case round =>
    obtain ⟨x, hx, rfl, hcx, hmx, hfx⟩ := hrel
    clear hc2 hm2 hfr2
    by_cases hlt3 : x < 5
    ·have hlt3I : (x : Int) < 5 := by omega
     obtain ⟨wo, rfl⟩ : ∃ wo : World, wo = wr := ⟨_, rfl⟩
     have hc4 : wo.cell? ⟨gc, (x + 4) % 5, none⟩ = some (.int .u64 ((col.getD ((x + 4) % 5) 0).toNat : Int)) := hcx.cell (b0P _ _ (by omega))
     have hc1 : wo.cell? ⟨gc, (x + 1) % 5, none⟩ = some (.int .u64 ((col.getD ((x + 1) % 5) 0).toNat : Int)) := hcx.cell (b0P _ _ (by omega))
     generalize hu : col.getD ((x + 4) % 5) 0 = u at hc4
     generalize hv : col.getD ((x + 1) % 5) 0 = v at hc1
     have HU := qH hu; clear hu
     have HV := qH hv; clear hv
     have HCL := qH hcl; clear hcl
     have HS := qH hS; clear hS
     have HGC := qH hgc; clear hgc
     have hlo : (0 : Int) ≤ ((x : Int) + 4) % 5 ∧ ((x : Int) + 4) % 5 < 5 ∧ (0 : Int) ≤ ((x : Int) + 1) % 5 ∧ ((x : Int) + 1) % 5 < 5 := by omega
     go_wp2_with fail
     have e1 : IntKind.i64.wrap ((x : Int) + 4) = (x : Int) + 4 := IntWalk.i64_in _ (by omega)
     have e2 : ((x : Int) + 4).tmod 5 = ((x : Int) + 4) % 5 := Int.tmod_eq_emod_of_nonneg (by omega)
     have e3 : (((x : Int) + 4) % 5).toNat = (x + 4) % 5 := by omega
     have e4 : IntKind.i64.wrap ((x : Int) + 1) = (x : Int) + 1 := IntWalk.i64_in _ (by omega)
     have e5 : ((x : Int) + 1).tmod 5 = ((x : Int) + 1) % 5 := Int.tmod_eq_emod_of_nonneg (by omega)
     have e6 : (((x : Int) + 1) % 5).toNat = (x + 1) % 5 := by omega
     go_quiet ((go_at_call 129; exact Calls.quiet_of (q0u _ _)))
     clear e1 e2 e3 e4 e5 e6
     go_wp2_with fail
     have hcz := hcx.drewN nq
     have hmz := hmx.drewN nq
     have hfz := hfx.drewN nq
     generalize wo.drewN nq = wz at *
     clear hcx hmx hfx hc4 hc1 wo
     have hmb := hmz.lt
     have hd : wx u (l0E v 1) = dR col x := by rw [dR, HU.out, HV.out]; rfl
     generalize wx u (l0E v 1) = d at *
     have HD := qH hd; clear hd
     go_loopw [13] (fun i wr => ∃ y : Nat, y ≤ 5 ∧ i = .int .i64 y ∧ Has wr gc (ws col) 23 ∧ Has wr gm (ws (c0G S (a0v 24) (k0l S (a0v 24) col x) x d y)) 23 ∧ Fr Nob w wr) (fun i _ => (5 - intOf i).toNat)
     case atStart => exact ⟨0, by omega, rfl, hcz, by rw [k0t]; exact hmz, hfz⟩
     case round =>
      obtain ⟨y, hy, rfl, hcy, hmy, hfy⟩ := hrel
      clear hcz hmz hfz
      by_cases hlt4 : y < 5
      ·have hlt4I : (y : Int) < 5 := by omega
       obtain ⟨b, o, rfl, hat⟩ := (ha.still hfy).at (by omega)
       obtain ⟨tb, to, rfl, tat⟩ := (ht.still hfy).at (by omega)
       have hnb : b ≠ gm := by have := ha.lt (by omega); have := HGC.out; omega
       have hnt : tb ≠ gm := by have := ht.lt (by omega); have := HGC.out; omega
       have hs : wr.cell? ⟨b, o + a0W x y, none⟩ = some (.int .u64 ((S.getD (a0W x y) 0).toNat : Int)) := hat _ _ (b0P _ _ (by rw [HS.out]; exact c0P x y))
       have htu : wr.cell? ⟨tb, to + a0W x y, none⟩ = some (.int .i64 (((a0v 24).getD (a0W x y) 0 : Nat) : Int)) := tat _ _ (u0B _ _ (by rw [b0r]; exact c0P x y))
       have htl : (a0v 24).getD (a0W x y) 0 < 64 := n0k _
       have hpl := c0P x y
       have hpl2 := c0P y (2 * x + 3 * y)
       obtain ⟨v0, hc0, hf0⟩ := hmy.ready (i := a0W y (2 * x + 3 * y)) (by rw [a0L, g0U, n0m]; exact hpl2)
       have hpi : (0 : Int) ≤ (a0W x y : Int) ∧ (a0W x y : Int) < 25 ∧ (0 : Int) ≤ (a0W y (2 * x + 3 * y) : Int) ∧ (a0W y (2 * x + 3 * y) : Int) < 25 := by omega
       generalize hsv : S.getD (a0W x y) 0 = sv at hs
       generalize htv : (a0v 24).getD (a0W x y) 0 = tv at htu htl
       have HSV := qH hsv; clear hsv
       have HTV := qH htv; clear htv
       clear hat tat hpl hpl2
       go_wp2_with fail
       have e1 : IntKind.i64.wrap (2 * (x : Int)) = 2 * (x : Int) := IntWalk.i64_in _ (by omega)
       have e2 : IntKind.i64.wrap (3 * (y : Int)) = 3 * (y : Int) := IntWalk.i64_in _ (by omega)
       have e3 : IntKind.i64.wrap (2 * (x : Int) + 3 * (y : Int)) = 2 * (x : Int) + 3 * (y : Int) := IntWalk.i64_in _ (by omega)
       go_region_held3 (fun w' => w'.cell? ⟨b, o + a0W x y, none⟩ = some (.int .u64 (sv.toNat : Int)) ∧ w'.cell? ⟨tb, to + a0W x y, none⟩ = some (.int .i64 (tv : Int))) (first | go_keep | (refine ⟨?_, ?_⟩ <;> (rw [n0Y _ _ _ _ _ _ (by assumption)]; assumption)))
        (first | (go_at_call_of 128 (Value.int .i64 (x : Int)); refine (c0R x y _ (by omega) (by omega)).mono ?_; rintro e w' ⟨rfl, rfl⟩) | (go_at_call 129; refine (n0i _ _ htl _).mono ?_; rintro e w' ⟨rfl, nl, rfl⟩) | (go_at_call 128; refine (o0z x y _ (by omega) (by omega)).mono ?_; rintro e w' ⟨rfl, rfl⟩))
       all_goals go_wp2
       go_roundw
       case rel =>
        have e : c0G S (a0v 24) (k0l S (a0v 24) col x) x d (y + 1) = (c0G S (a0v 24) (k0l S (a0v 24) col x) x d y).set (a0W y (2 * x + 3 * y)) (l0E (wx sv d) tv) := by
         rw [f0Q, g0j, HSV.out, HTV.out]; rfl
        refine ⟨y + 1, by omega, by go_num, (hcy.drewN _).other _ _ _ (by omega), ?_, (hfy.drewN _).setCell _ _ _ _ (fun h => by have := HGC.out; omega)⟩
        rw [e, ← e0u]
        exact (hmy.drewN _).set _ _
       case measure => simp [intOf]; omega
      ·have hge : ¬ ((y : Int) < 5) := by omega
       have hy5 : y = 5 := by omega
       have HY := qH hy5; clear hy5
       go_wp2_with fail
       go_roundw
       case rel =>
        rw [HY.out, HD.out, ← k0s] at hmy
        first
         | exact ⟨x + 1, by omega, by go_num, hcy, hmy, hfy⟩
         | exact ⟨x + 1, by omega, by omega, hmy⟩
       case measure => simp [intOf]; omega
    ·have hge : ¬ ((x : Int) < 5) := by omega
     have hx5 : x = 5 := by omega
     have hml : (k0l S (a0v 24) col x).length = 25 := n0m _ _ _ _
     have hmv : k0l S (a0v 24) col x = k0l S (a0v 24) (h0M S 5) 5 := by rw [hx5, HCOL.out]
     generalize k0l S (a0v 24) col x = mv at *
     have HMV := qH hmv; clear hmv hx5
     have HGC := qH hgc; clear hgc
     have HS := qH hS; clear hS
     have HCL := qH hcl; clear hcl
     have hgb : gc ≤ wr.heap.size := by have := hfx.size; have := HGC.out; omega
     go_wp2_with (at_make; refine c0p rfl rfl Tryz.underlying159 g0m rfl rfl rfl 25 25 (by simp) (by simp) (by omega) (by omega) (by unfold maxLen; omega) ?_; intro w3 hw3 hf3 hz3)
     have ho3 : Has w3 wr.heap.size (ws (k0m mv 0)) 23 := by simpa [k0m, ws] using hw3
     have hgo : gm < wr.heap.size := hmx.lt
     have hm3 := hmx.keep hf3 id
     have hfr3 := hfx.same hf3
     generalize wr.heap.size = go at *
     clear hw3 hf3 hz3 hcx hmx hfx
     go_wp2_with fail
     go_loopw [15] (fun i wr => ∃ x : Nat, x ≤ 5 ∧ i = .int .i64 x ∧ Has wr gm (ws mv) 23 ∧ Has wr go (ws (k0m mv x)) 23 ∧ Fr Nob w wr) (fun i _ => (5 - intOf i).toNat)
     case atStart => exact ⟨0, by omega, rfl, hm3, ho3, hfr3⟩
     case round =>
      obtain ⟨x, hx, rfl, hmx, hox, hfx⟩ := hrel
      clear hm3 ho3 hfr3
      by_cases hlt5 : x < 5
      ·have hlt5I : (x : Int) < 5 := by omega
       obtain ⟨wo, rfl⟩ : ∃ wo : World, wo = wr := ⟨_, rfl⟩
       go_wp2_with fail
       go_loopw [16] (fun i wr => ∃ y : Nat, y ≤ 5 ∧ i = .int .i64 y ∧ Has wr gm (ws mv) 23 ∧ Has wr go (ws (c0H mv (k0m mv x) x y)) 23 ∧ Fr Nob w wr) (fun i _ => (5 - intOf i).toNat)
       case atStart => exact ⟨0, by omega, rfl, hmx, by rw [k0v]; exact hox, hfx⟩
       case round =>
        obtain ⟨y, hy, rfl, hmy, hoy, hfy⟩ := hrel
        clear hmx hox hfx
        by_cases hlt6 : y < 5
        ·have hlt6I : (y : Int) < 5 := by omega
         have hp0 := c0P x y
         have hp1 := c0P (x + 1) y
         have hp2 := c0P (x + 2) y
         have h0 : wr.cell? ⟨gm, a0W x y, none⟩ = some (.int .u64 ((mv.getD (a0W x y) 0).toNat : Int)) := hmy.cell (b0P _ _ (by omega))
         have h1 : wr.cell? ⟨gm, a0W (x + 1) y, none⟩ = some (.int .u64 ((mv.getD (a0W (x + 1) y) 0).toNat : Int)) := hmy.cell (b0P _ _ (by omega))
         have h2 : wr.cell? ⟨gm, a0W (x + 2) y, none⟩ = some (.int .u64 ((mv.getD (a0W (x + 2) y) 0).toNat : Int)) := hmy.cell (b0P _ _ (by omega))
         obtain ⟨v0, hc0, hf0⟩ := hoy.ready (i := a0W x y) (by rw [a0L, g0V, j0h]; exact hp0)
         have hpi : (0 : Int) ≤ (a0W x y : Int) ∧ (a0W x y : Int) < 25 ∧ (0 : Int) ≤ (a0W (x + 1) y : Int) ∧ (a0W (x + 1) y : Int) < 25 ∧ (0 : Int) ≤ (a0W (x + 2) y : Int) ∧ (a0W (x + 2) y : Int) < 25 := by omega
         generalize hv0 : mv.getD (a0W x y) 0 = y0 at h0
         generalize hv1 : mv.getD (a0W (x + 1) y) 0 = y1 at h1
         generalize hv2 : mv.getD (a0W (x + 2) y) 0 = y2 at h2
         have HV0 := qH hv0; clear hv0
         have HV1 := qH hv1; clear hv1
         have HV2 := qH hv2; clear hv2
         have HML := qH hml; clear hml hp0 hp1 hp2
         go_wp2_with fail
         have e1 : IntKind.i64.wrap ((x : Int) + 1) = (x : Int) + 1 := IntWalk.i64_in _ (by omega)
         have e2 : IntKind.i64.wrap ((x : Int) + 2) = (x : Int) + 2 := IntWalk.i64_in _ (by omega)
         refine wp_region_still_tail 28 (by kernel_rfl) (by kernel_rfl) ?_
         simp only [List.take_succ_cons, List.take_zero, List.drop_succ_cons, List.drop_zero]
         repeat still_step
         still_call (c0R x y _ (by omega) (by omega))
         repeat still_step
         still_call (c0R x y _ (by omega) (by omega))
         repeat still_step
         still_call (v0T x y _ (by omega) (by omega))
         repeat still_step
         still_call (v0U x y _ (by omega) (by omega))
         repeat still_step
         refine wpStill_nil ?_
         go_wp2
         go_roundw
         case rel =>
          have e : c0H mv (k0m mv x) x (y + 1) = (c0H mv (k0m mv x) x y).set (a0W x y) (wx y0 (wa (wn y1) y2)) := by
           rw [f0R, g0k, HV0.out, HV1.out, HV2.out]; rfl
          refine ⟨y + 1, by omega, by go_num, (hmy.other _ _ _ (by omega)).drew, ?_, (hfy.setCell _ _ _ _ (fun h => by have := HGC.out; omega)).drew⟩
          rw [e, ← e0u]
          exact (hoy.set _ _).drew
         case measure => simp [intOf]; omega
        ·have hge : ¬ ((y : Int) < 5) := by omega
         have hy5 : y = 5 := by omega
         have HY := qH hy5; clear hy5
         go_wp2_with fail
         go_roundw
         case rel =>
          rw [HY.out, ← k0u] at hoy
          first
           | exact ⟨x + 1, by omega, by go_num, hmy, hoy, hfy⟩
           | exact ⟨x + 1, by omega, by omega, hoy⟩
         case measure => simp [intOf]; omega
      ·have hge : ¬ ((x : Int) < 5) := by omega
       have hx5 : x = 5 := by omega
       have hol : (k0m mv x).length = 25 := j0h mv x
       have hcell : wr.cell? ⟨go, 0, none⟩ = some (.int .u64 (((k0m mv x).getD 0 0).toNat : Int)) := hox.cell (b0P _ _ (by omega))
       have hfree : wr.frozen? ⟨go, 0, none⟩ = false := hox.free _ (by rw [a0L]; omega)
       generalize hu : (k0m mv x).getD 0 0 = u at hcell
       have HU := qH hu; clear hu
       have HX5 := qH hx5; clear hx5
       have HOL := qH hol; clear hol
       have HML := qH hml; clear hml
       go_wp2_with fail
       try go_region
       all_goals go_wp2
       go_ret
       have e : e0W (a0v 24) S c = (k0m mv x).set 0 (wx u c) := by
        rw [e0W, ← HMV.out, ← HX5.out, HU.out]; rfl
       refine ⟨go, rfl, by have := HGC.out; omega, ?_, hfx.setCell _ _ _ _ (fun h => by have := HGC.out; omega)⟩
       rw [e, ← e0u]
       exact hox.set _ _
end
end Go.Proofs.YtemcankmggmgoaaGreatDoor
namespace Mvp
def a0z : List UInt64 := List.replicate 25 0
def b0l (S : List UInt64) : List UInt64 := b0B (a0v 24) (fun r => rcP r 8) S 24
def c0h (l : List UInt8) : List UInt8 := toB (b0l (e0Z a0z l 200)) 200
theorem f0b (S : List UInt64) : (b0l S).length = S.length := g0Q _ _ _ _
theorem s0Z (S : List UInt64) (h : S.length = 25) : e0t (a0v 24) (fun r => rcR r 7) S 24 = b0l S :=
 (q0j (a0v 24) (fun r => rcP r 8) (fun r => rcR r 7) S h 24 (fun r hr => v0Q r hr)).symm
def k0w (s : List UInt64) (i : Nat) (x : UInt8) : List UInt64 := s.set (i / 8) (wo (s.getD (i / 8) 0) (shl (wid x) (8 * (i % 8))))
def orB (s : List UInt64) (b : List UInt8) (k : Nat) : List UInt64 := (List.range k).foldl (fun s i => k0w s i (b.getD i 0)) s
theorem j0i (s : List UInt64) (b : List UInt8) (k : Nat) : orB s b (k + 1) = k0w (orB s b k) k (b.getD k 0) := by simp [orB, List.range_succ]
theorem v0V (s : List UInt64) (b : List UInt8) (k : Nat) : (orB s b k).length = s.length := by
 induction k with
 | zero => simp [orB]
 | succ k ih => rw [j0i]; simp [k0w, ih]
theorem x0R (x y k : Nat) (h : x < 2 ^ k) : x ||| (y * 2 ^ k) = x ^^^ (y * 2 ^ k) := by
 apply Nat.eq_of_testBit_eq
 intro i
 rw [Nat.testBit_or, Nat.testBit_xor]
 rcases Nat.lt_or_ge i k with hi | hi
 ·have : (y * 2 ^ k).testBit i = false := by rw [Nat.testBit_mul_two_pow]; simp; omega
  simp [this]
 ·have : x.testBit i = false := Nat.testBit_lt_two_pow (Nat.lt_of_lt_of_le h (Nat.pow_le_pow_right (by omega) hi))
  simp [this]
theorem l0Z (x : UInt8) (k : Nat) (hk : k ≤ 56) : (shl (wid x) k).toNat = x.toNat * 2 ^ k := by
 have hx := x.toNat_lt
 have h1 : x.toNat * 2 ^ k < 2 ^ 8 * 2 ^ 56 := by
  have h2 : 2 ^ k ≤ 2 ^ 56 := Nat.pow_le_pow_right (by omega) hk
  have h3 : 0 < 2 ^ k := Nat.two_pow_pos k
  calc x.toNat * 2 ^ k < 2 ^ 8 * 2 ^ k := Nat.mul_lt_mul_of_pos_right hx h3
   _ ≤ 2 ^ 8 * 2 ^ 56 := Nat.mul_le_mul_left _ h2
 simp only [shl, wid, UInt64.toNat_ofNat', UInt8.toNat_toUInt64]
 exact Nat.mod_eq_of_lt (by simpa using h1)
theorem z0d (a : UInt64) (x : UInt8) (k : Nat) (hk : k ≤ 56) (h : a.toNat < 2 ^ k) : wo a (shl (wid x) k) = wx a (shl (wid x) k) := by
 apply UInt64.toNat_inj.1
 simp only [wo, wx, UInt64.toNat_or, UInt64.toNat_xor]
 rw [l0Z x k hk, x0R _ _ _ h]
theorem z0e (a : UInt64) (x : UInt8) (k : Nat) (hk : k ≤ 56) (h : a.toNat < 2 ^ k) : (wx a (shl (wid x) k)).toNat < 2 ^ (k + 8) := by
 simp only [wx, UInt64.toNat_xor]
 rw [l0Z x k hk]
 have hx := x.toNat_lt
 refine Nat.xor_lt_two_pow (Nat.lt_of_lt_of_le h (Nat.pow_le_pow_right (by omega) (by omega))) ?_
 rw [Nat.pow_add, Nat.mul_comm (2 ^ k)]
 exact Nat.mul_lt_mul_of_pos_right hx (Nat.two_pow_pos k)
theorem n0n (s : List UInt64) (i j : Nat) (v : UInt64) (hi : i < s.length) : (s.set i v).getD j 0 = if i = j then v else s.getD j 0 := by
 have _h := hi
 simp only [List.getD_eq_getElem?_getD, List.getElem?_set]
 split
 ·rename_i h; subst h; simp
 ·rfl
theorem v0W (b : List UInt8) (k : Nat) (hk : k ≤ 200) : orB a0z b k = e0Z a0z b k ∧ (∀ j, j < 25 → ((e0Z a0z b k).getD j 0).toNat < 2 ^ (8 * min (k - 8 * j) 8)) := by
 induction k with
 | zero =>
  refine ⟨by simp [orB, e0Z], fun j hj => ?_⟩
  have hz : ∀ j, j < 25 → a0z.getD j 0 = 0 := by decide
  have e : e0Z a0z b 0 = a0z := by simp [e0Z]
  rw [e, hz j hj]
  simp
 | succ k ih =>
  obtain ⟨h1, h2⟩ := ih (by omega)
  have hl : (e0Z a0z b k).length = 25 := by rw [g0l]; simp [a0z]
  have hk8 : k / 8 < 25 := by omega
  have h3 := h2 (k / 8) hk8
  have e3 : min (k - 8 * (k / 8)) 8 = k % 8 := by omega
  rw [e3] at h3
  refine ⟨?_, fun j hj => ?_⟩
  ·rw [j0i, e0g, h1, k0w, b0S, z0d _ _ _ (by omega) h3]
  ·rw [e0g, b0S, n0n _ _ _ _ (by omega)]
   split
   ·rename_i e
    subst e
    have := z0e ((e0Z a0z b k).getD (k / 8) 0) (b.getD k 0) (8 * (k % 8)) (by omega) h3
    have e4 : 8 * min (k + 1 - 8 * (k / 8)) 8 = 8 * (k % 8) + 8 := by omega
    rw [e4]; exact this
   ·rename_i e
    have e5 : min (k + 1 - 8 * j) 8 = min (k - 8 * j) 8 := by omega
    rw [e5]; exact h2 j hj
end Mvp
namespace Go.Proofs.YtemcankmggmgoaaGreatDoor
section
open Go.RowKit Go.Mv Mvp
end
section
open Go.RowKit Go.Mv Mvp
theorem o0A (t : List Nat) (s : List UInt64) (c : UInt64) : (e0W t s c).length = 25 := by simp [e0W, j0h]
theorem k0x (t : List Nat) (rc : Nat → UInt64) (s : List UInt64) (k : Nat) (h : s.length = 25) : (e0t t rc s k).length = 25 := by
 cases k with
 | zero => simpa [e0t] using h
 | succ k => rw [f0z, o0A]
theorem f0S (s : ByteArray) (w : World) (hs : s.size = 200) :
  Calls Tryz.prog 95 #[.string s] w fun e w' => e = .returned (.string (mkS (c0h s.data.toList))) ∧ Fr Nob w w' := by
 have hsb : s.size ≤ 200 := by omega
 have HSZ := qH hs; clear hs
 go_enter Tryz.func95, Tryz.ntmps95
 go_wp2_with (at_make; refine c0p rfl rfl Tryz.underlying159 g0m rfl rfl rfl 25 25 (by simp) (by simp) (by omega) (by omega) (by unfold maxLen; omega) ?_; intro w1 hw1 hf1 hz1)
 have ha1 : Has w1 w.heap.size (ws (orB a0z s.data.toList 0)) 23 := by simpa [orB, a0z, ws] using hw1
 generalize hga : w.heap.size = ga at *
 clear hw1
 have HGA := qH hga; clear hga
 go_loopw [4] (fun i wr => ∃ k : Nat, k ≤ 200 ∧ i = .int .i64 k ∧ Has wr ga (ws (orB a0z s.data.toList k)) 23 ∧ Fr Nob w wr) (fun i _ => (200 - intOf i).toNat)
 case atStart => exact ⟨0, by omega, rfl, ha1, hf1⟩
 case round =>
  obtain ⟨k, hk, rfl, hak, hf⟩ := hrel
  clear ha1 hf1 hz1
  by_cases hlt : k < 200
  ·have hltI : (k : Int) < 200 := by omega
   have hol : (orB a0z s.data.toList k).length = 25 := by rw [v0V]; simp [a0z]
   have hx : ∀ h1 : k < s.size, s[k]'h1 = s.data.toList.getD k 0 := by
    intro h1
    rw [List.getD_eq_getElem?_getD, List.getElem?_eq_getElem (by simpa using h1)]
    simp
    rfl
   have hc : wr.cell? ⟨ga, k / 8, none⟩ = some (.int .u64 (((orB a0z s.data.toList k).getD (k / 8) 0).toNat : Int)) := hak.cell (b0P _ _ (by omega))
   have hfz : wr.frozen? ⟨ga, k / 8, none⟩ = false := hak.free _ (by rw [a0L]; omega)
   have hlo : (0 : Int) ≤ (k : Int) / 8 ∧ (k : Int) / 8 < 25 := by omega
   generalize hy : (orB a0z s.data.toList k).getD (k / 8) 0 = y at hc
   generalize hxx : s.data.toList.getD k 0 = x at hx
   have HY := qH hy; clear hy
   have HX := qH hxx; clear hxx
   have HOL := qH hol; clear hol
   go_wp2_with fail
   have e1 : IntKind.i64.wrap ((k : Int) / 8) = (k : Int) / 8 := IntWalk.i64_in _ (by omega)
   have hks : (k : Int) < (s.size : Int) := by have := HSZ.out; omega
   have e2 : (k : Int).tmod 8 = (k : Int) % 8 := Int.tmod_eq_emod_of_nonneg (by omega)
   have e3 : IntKind.i64.wrap (8 * ((k : Int) % 8)) = 8 * ((k : Int) % 8) := IntWalk.i64_in _ (by omega)
   have e4 : ((k : Int) / 8).toNat = k / 8 := by omega
   refine wp_region_still_tail 18 (by kernel_rfl) (by kernel_rfl) ?_
   simp only [List.take_succ_cons, List.take_zero, List.drop_succ_cons, List.drop_zero]
   repeat still_step
   refine wpStill_nil ?_
   go_wp2
   go_roundw
   case rel =>
    have e : orB a0z s.data.toList (k + 1) = (orB a0z s.data.toList k).set (k / 8) (wo y (shl (wid x) (8 * (k % 8)))) := by
     rw [j0i, k0w, HX.out, HY.out]
    refine ⟨k + 1, by omega, by go_num, ?_, (hf.setCell _ _ _ _ (fun h => by have := HGA.out; omega)).drew⟩
    rw [e, ← e0u]
    exact (hak.set _ _).drew
   case measure => simp [intOf]; omega
  ·have hge : ¬ ((k : Int) < 200) := by omega
   have hk200 : k = 200 := by omega
   have hor : orB a0z s.data.toList k = e0Z a0z s.data.toList 200 := by rw [hk200]; exact (v0W s.data.toList 200 (by omega)).1
   rw [hor] at hak
   have hsl : (e0Z a0z s.data.toList 200).length = 25 := by rw [g0l]; simp [a0z]
   have hpb : c0h s.data.toList = toB (e0t (a0v 24) (fun r => rcR r 7) (e0Z a0z s.data.toList 200) 24) 200 := by rw [s0Z _ hsl]; rfl
   generalize e0Z a0z s.data.toList 200 = S at *
   clear hor hk200
   have HPB := qH hpb; clear hpb
   have HSL := qH hsl; clear hsl
   go_wp2_with fail
   refine (l0U _).mono ?_
   rintro e w2 ⟨rfl, ht2, hf2⟩
   have ha2 := hak.keep hf2 id
   have hfr2 := hf.then hf2
   generalize wr.heap.size = gt at *
   clear hak hf hf2
   go_wp2_with fail
   go_loopw [3, 6] (fun v i wr => ∃ (r g : Nat), r ≤ 24 ∧ i = .int .i64 r ∧ v = .slice (some ⟨g, 0, none⟩) 25 25 ∧ Has wr g (ws (e0t (a0v 24) (fun r => rcR r 7) S r)) 23 ∧ Has wr gt (is (a0v 24)) 3 ∧ Fr Nob w wr) (fun _ i _ => (24 - intOf i).toNat)
   case atStart => exact ⟨0, ga, by omega, rfl, rfl, by simpa [e0t] using ha2, ht2, hfr2⟩
   case round =>
    obtain ⟨r, g, hr, rfl, rfl, hgr, htr, hfr⟩ := hrel
    clear ha2 ht2 hfr2
    by_cases hlt2 : r < 24
    ·have hlt2I : (r : Int) < 24 := by omega
     have hpl : (e0t (a0v 24) (fun r => rcR r 7) S r).length = 25 := k0x _ _ _ _ HSL.out
     go_wp2_with fail
     refine (o0v r hlt2 _).mono ?_
     rintro e w' ⟨rfl, rfl⟩
     go_wp2_with fail
     refine (q0v _ _ 25 _ _ (e0t (a0v 24) (fun r => rcR r 7) S r) (rcR r 7) _ rfl (by have := Rd.whole hgr; rwa [a0L, hpl] at this) (by have := Rd.whole htr; rwa [c0b, b0r] at this)).mono ?_
     rintro e w3 ⟨g3, rfl, hg3, hh3, hf3⟩
     go_wp2_with fail
     go_roundw
     case rel => exact ⟨r + 1, g3, by omega, by go_num, rfl, by rw [f0z]; exact hh3, htr.keep hf3 id, hfr.then hf3⟩
     case measure => simp [intOf]; omega
    ·have hge2 : ¬ ((r : Int) < 24) := by omega
     have hr24 : r = 24 := by omega
     have hpl : (e0t (a0v 24) (fun r => rcR r 7) S r).length = 25 := k0x _ _ _ _ HSL.out
     have hpb2 : c0h s.data.toList = toB (e0t (a0v 24) (fun r => rcR r 7) S r) 200 := by rw [HPB.out, hr24]
     generalize e0t (a0v 24) (fun r => rcR r 7) S r = R at *
     have HPB2 := qH hpb2; clear hpb2
     clear hr24 htr
     go_wp2_with (at_make; refine c0p rfl rfl Tryz.underlying24 b0w rfl rfl rfl 200 200 (by simp) (by simp) (by omega) (by omega) (by unfold maxLen; omega) ?_; intro w4 hw4 hf4 hz4)
     have hgo : g < wr.heap.size := hgr.lt
     have hgb : w.heap.size ≤ wr.heap.size := hfr.size
     have ho4 : Has w4 wr.heap.size (bs (fill (toB R 200) (List.replicate 200 0) 0)) 5 := by rw [e0K]; simpa [bs] using hw4
     have hg4 := hgr.keep hf4 id
     have hfr4 := hfr.then hf4
     generalize wr.heap.size = go at *
     clear hw4 hf4 hz4 hgr hfr
     go_wp2_with fail
     go_loopw [8] (fun i wr => ∃ k : Nat, k ≤ 200 ∧ i = .int .i64 k ∧ Has wr go (bs (fill (toB R 200) (List.replicate 200 0) k)) 5 ∧ Has wr g (ws R) 23 ∧ Fr Nob w wr) (fun i _ => (200 - intOf i).toNat)
     case atStart => exact ⟨0, by omega, rfl, ho4, hg4, hfr4⟩
     case round =>
      obtain ⟨k, hk, rfl, hh, hg2, hf⟩ := hrel
      clear ho4 hg4 hfr4
      by_cases hlt3 : k < 200
      ·have hlt3I : (k : Int) < 200 := by omega
       obtain ⟨v0, hc0, hfr0⟩ := hh.ready (i := k) (by rw [a0H, b0W _ _ _ (by simp [a0X])]; simpa using hlt3)
       have hc : wr.cell? ⟨g, k / 8, none⟩ = some (.int .u64 ((R.getD (k / 8) 0).toNat : Int)) := hg2.cell (b0P _ _ (by omega))
       have hlo : (0 : Int) ≤ (k : Int) / 8 ∧ (k : Int) / 8 < 25 := by omega
       generalize hy : R.getD (k / 8) 0 = y at hc
       have HY := qH hy; clear hy
       have HPL := qH hpl; clear hpl
       go_wp2
       go_roundw
       case rel =>
        have e : (toB R 200).getD k 0 = lo8 (shr y (8 * (k % 8))) := by rw [u0N R 200 k hlt3, d0z, HY.out]
        refine ⟨k + 1, by omega, by go_num, ?_, hg2.other _ _ _ (by omega), hf.setCell _ _ _ _ (fun h => absurd h (by omega))⟩
        rw [← e]
        exact hh.fillB (by simp [a0X]) (by simpa [a0X] using hlt3)
       case measure => simp [intOf]; omega
      ·have hge3 : ¬ ((k : Int) < 200) := by omega
       rw [e0L _ _ _ (by simp [a0X]) (by simp [a0X]; omega)] at hh
       go_wp2_with (with_reducible refine wSk 61 ?_)
       refine d0p rfl rfl Tryz.underlying24 Tryz.underlying5 Tryz.underlying9 rfl (l := toB R 200) (by have := Rd.whole hh; rwa [a0H, a0X] at this) ?_
       go_wp2
       go_ret
       exact ⟨by rw [HPB2.out]; rfl, hf⟩
end
end Go.Proofs.YtemcankmggmgoaaGreatDoor
namespace Mvp
def k0y (st : List UInt64 × Nat) (x : UInt8) : List UInt64 × Nat :=
 if st.2 + 1 = 136 then (b0l (b0S st.1 st.2 x), 0) else (b0S st.1 st.2 x, st.2 + 1)
def c0i (st : List UInt64 × Nat) (l : List UInt8) : List UInt64 × Nat := l.foldl k0y st
theorem c0Y (st : List UInt64 × Nat) (l m : List UInt8) : c0i st (l ++ m) = c0i (c0i st l) m := by simp [c0i]
theorem g0n (st : List UInt64 × Nat) : c0i st [] = st := rfl
theorem d0A (st : List UInt64 × Nat) (x : UInt8) (l : List UInt8) : c0i st (x :: l) = c0i (k0y st x) l := rfl
def c0j : List UInt64 → Nat → List UInt8 → List UInt64
 | S, _, [] => S
 | S, k, x :: l => c0j (b0S S k x) (k + 1) l
theorem d0P (S : List UInt64) (k : Nat) (x : UInt8) : (b0S S k x).length = S.length := by simp [b0S]
theorem g0W (l : List UInt8) : ∀ (S : List UInt64) (k : Nat), (c0j S k l).length = S.length := by
 induction l with
 | nil => intro S k; rfl
 | cons x l ih => intro S k; rw [c0j, ih, d0P]
theorem o0B (l : List UInt8) : ∀ (S : List UInt64) (k : Nat), k + l.length < 136 → c0i (S, k) l = (c0j S k l, k + l.length) := by
 induction l with
 | nil => intro S k _; rfl
 | cons x l ih =>
  intro S k h
  simp only [List.length_cons] at h
  rw [d0A, k0y, if_neg (by simp; omega), ih _ _ (by simp; omega), c0j]
  simp; omega
theorem g0X (l : List UInt8) : ∀ (S : List UInt64) (k : Nat), k + l.length = 136 → k < 136 → c0i (S, k) l = (b0l (c0j S k l), 0) := by
 induction l with
 | nil => intro S k h h'; simp at h; omega
 | cons x l ih =>
  intro S k h h'
  simp only [List.length_cons] at h
  by_cases hl : l = []
  ·subst hl
   simp at h
   rw [d0A, k0y, if_pos (by simp; omega), g0n]
   rfl
  ·have hp : 0 < l.length := List.length_pos_iff.2 hl
   rw [d0A, k0y, if_neg (by simp; omega), ih _ _ (by simp; omega) (by simp; omega), c0j]
theorem j0j (l : List UInt8) : ∀ (st : List UInt64 × Nat), st.2 < 136 → (c0i st l).2 < 136 := by
 induction l with
 | nil => intro st h; exact h
 | cons x l ih =>
  intro st h
  rw [d0A]
  apply ih
  unfold k0y
  split
  ·simp
  ·simp; omega
theorem f0c (l : List UInt8) : ∀ (st : List UInt64 × Nat), (c0i st l).1.length = st.1.length := by
 induction l with
 | nil => intro st; rfl
 | cons x l ih =>
  intro st
  rw [d0A, ih]
  unfold k0y
  split
  ·simp [f0b, d0P]
  ·simp [d0P]
theorem k0z (S : List UInt64) (k : Nat) : b0S S k 0 = S := by
 have e : shl (wid 0) (8 * (k % 8)) = 0 := by
  apply UInt64.toNat_inj.1
  simp [shl, wid]
 unfold b0S
 rw [e]
 have e2 : wx (S.getD (k / 8) 0) 0 = S.getD (k / 8) 0 := by simp [wx]
 rw [e2]
 rcases Nat.lt_or_ge (k / 8) S.length with h | h
 ·have e3 : S.getD (k / 8) 0 = S[k / 8] := by simp [List.getD_eq_getElem?_getD, h]
  rw [e3]; simp
 ·exact List.set_eq_of_length_le h
theorem q0w (S : List UInt64) (b : List UInt8) (n : Nat) : n ≤ b.length → e0Z S b n = c0j S 0 (b.take n) := by
 have key : ∀ (l : List UInt8) (S : List UInt64) (k : Nat) (x : UInt8), c0j S k (l ++ [x]) = b0S (c0j S k l) (k + l.length) x := by
  intro l
  induction l with
  | nil => intro S k x; rfl
  | cons y l ih =>
   intro S k x
   rw [List.cons_append, c0j, ih, c0j]
   simp [Nat.add_assoc, Nat.add_comm 1]
 induction n with
 | zero => intro _; simp [e0Z, c0j]
 | succ n ih =>
  intro h
  have hn : n < b.length := by omega
  rw [e0g, ih (by omega), List.take_succ_eq_append_getElem hn, key]
  congr 1
  ·simp; omega
  ·simp [List.getD_eq_getElem?_getD, hn]
theorem m0a (S : List UInt64) (k : Nat) (l : List UInt8) : ∀ j, c0j S j (List.replicate k 0 ++ l) = c0j S (j + k) l := by
 induction k with
 | zero => intro j; simp
 | succ k ih =>
  intro j
  rw [List.replicate_succ, List.cons_append, c0j, k0z, ih, Nat.add_assoc, Nat.add_comm 1 k]
theorem i0i (S : List UInt64) (k : Nat) (l rest : List UInt8) : e0Z S (List.replicate k 0 ++ l ++ rest) (k + l.length) = c0j S k l := by
 rw [q0w _ _ _ (by simp), List.take_left' (by simp), m0a]
 simp
attribute [local irreducible] b0l toB
def n0o (k : Nat) (e : UInt8) : List UInt8 := ((e :: List.replicate (135 - k) 0).set (135 - k) (bx (((e :: List.replicate (135 - k) 0)).getD (135 - k) 0) 0x80))
theorem n0p (k : Nat) (e : UInt8) (h : k < 136) : (n0o k e).length = 136 - k := by simp [n0o]; omega
def h0S (st : List UInt64 × Nat) (e : UInt8) : List UInt64 := (c0i st (n0o st.2 e)).1
def a0I (S : List UInt64) : Nat → List UInt8
 | 0 => []
 | k + 1 => toB S 136 ++ a0I (b0l S) k
def b0m (S : List UInt64) : Nat → List UInt64
 | 0 => S
 | k + 1 => b0m (b0l S) k
theorem i0j (k : Nat) : ∀ (S : List UInt64), b0m S (k + 1) = b0l (b0m S k) := by
 induction k with
 | zero => intro S; rfl
 | succ k ih => intro S; rw [b0m, ih]; rfl
theorem k0A (k : Nat) : ∀ (S : List UInt64), (b0m S k).length = S.length := by
 induction k with
 | zero => intro S; rfl
 | succ k ih => intro S; rw [b0m, ih, f0b]
theorem e0G (k : Nat) : ∀ (S : List UInt64), (a0I S k).length = 136 * k := by
 induction k with
 | zero => intro S; rfl
 | succ k ih => intro S; rw [a0I, List.length_append, a0X, ih]; omega
theorem f0T (k : Nat) : ∀ (S : List UInt64), a0I S (k + 1) = a0I S k ++ toB (b0m S k) 136 := by
 induction k with
 | zero => intro S; simp [a0I, b0m]
 | succ k ih => intro S; rw [a0I, ih (b0l S)]; rw [a0I, b0m, List.append_assoc]
def e0h (n : Nat) : Nat := (n + 135) / 136
def v0X (S : List UInt64) (n : Nat) : List UInt8 := (a0I S (e0h n)).take n
theorem t0a (S : List UInt64) (n : Nat) : (v0X S n).length = n := by
 simp only [v0X, List.length_take, e0G, e0h]; omega
def a0C (l : List UInt8) (e : UInt8) (n : Nat) : List UInt8 := v0X (h0S (c0i (a0z, 0) l) e) n
theorem g0Y (l : List UInt8) (e : UInt8) (n : Nat) : (a0C l e n).length = n := t0a _ _
end Mvp
namespace Mvp
theorem f0d (a : UInt64) (k : Nat) : (lo8 (shr a k)).toNat = a.toNat / 2 ^ k % 256 := by
 have h : a.toNat / 2 ^ k < 18446744073709551616 := Nat.lt_of_le_of_lt (Nat.div_le_self _ _) a.toNat_lt
 simp only [lo8, shr, UInt64.toNat_toUInt8, UInt64.toNat_ofNat']
 omega
theorem f0e (a : UInt64) (k i : Nat) : (lo8 (shr a k)).toNat.testBit i = (decide (i < 8) && a.toNat.testBit (i + k)) := by
 rw [f0d, show (256 : Nat) = 2 ^ 8 from rfl, Nat.testBit_mod_two_pow, Nat.testBit_div_two_pow]
theorem j0k (x : UInt8) (i : Nat) (h : 8 ≤ i) : x.toNat.testBit i = false :=
 Nat.testBit_lt_two_pow (Nat.lt_of_lt_of_le x.toNat_lt (by have := Nat.pow_le_pow_right (show 0 < 2 by omega) h; simpa using this))
theorem t0b (a : UInt64) (x : UInt8) (m t : Nat) (hm : m < 8) (_ht : t < 8) :
  lo8 (shr (wx a (shl (wid x) (8 * m))) (8 * t)) = if t = m then bx (lo8 (shr a (8 * m))) x else lo8 (shr a (8 * t)) := by
 apply UInt8.toNat_inj.1
 apply Nat.eq_of_testBit_eq
 intro i
 rw [f0e]
 have hw : (wx a (shl (wid x) (8 * m))).toNat = a.toNat ^^^ (x.toNat * 2 ^ (8 * m)) := by
  simp only [wx, UInt64.toNat_xor]; rw [l0Z x _ (by omega)]
 rw [hw, Nat.testBit_xor, Nat.testBit_mul_two_pow]
 by_cases hi : i < 8
 ·by_cases e : t = m
  ·subst e
   rw [if_pos rfl]
   simp only [bx, UInt8.toNat_xor, Nat.testBit_xor, f0e]
   simp [hi]
  ·rw [if_neg e, f0e]
   have hz : (decide (8 * m ≤ i + 8 * t) && x.toNat.testBit (i + 8 * t - 8 * m)) = false := by
    rcases Nat.lt_or_ge t m with h | h
    ·have : ¬ (8 * m ≤ i + 8 * t) := by omega
     simp [this]
    ·rw [j0k x _ (by omega)]; simp
   rw [hz]; simp [hi]
 ·have h1 : (decide (i < 8)) = false := by simp [hi]
  rw [h1]
  split
  ·rw [j0k _ i (by omega)]; rfl
  ·rw [j0k _ i (by omega)]; rfl
theorem j0l (S : List UInt64) (hS : S.length = 25) (k i : Nat) (x : UInt8) (hk : k < 200) : d0z (b0S S k x) i = if i = k then bx (d0z S k) x else d0z S i := by
 unfold d0z b0S
 rw [n0n _ _ _ _ (by omega)]
 by_cases hd : k / 8 = i / 8
 ·rw [if_pos hd, t0b _ _ _ _ (by omega) (by omega), ← hd]
  by_cases e : i = k
  ·rw [if_pos e, if_pos (by omega)]
  ·rw [if_neg e, if_neg (by omega)]
 ·rw [if_neg hd, if_neg (by omega)]
theorem q0x (S S' : List UInt64) (h : S.length = 25) (h' : S'.length = 25) (hb : ∀ i, i < 200 → d0z S i = d0z S' i) : S = S' := by
 apply List.ext_getElem (by omega)
 intro j hj hj'
 have hw : ∀ (T : List UInt64) (hT : j < T.length), T.getD j 0 = T[j] := fun T hT => by simp [List.getD_eq_getElem?_getD, hT]
 rw [← hw S hj, ← hw S' hj']
 apply UInt64.toNat_inj.1
 apply Nat.eq_of_testBit_eq
 intro i
 rcases Nat.lt_or_ge i 64 with hi | hi
 ·have h1 := hb (8 * j + i / 8) (by omega)
  have h2 := congrArg (fun y : UInt8 => y.toNat.testBit (i % 8)) h1
  simp only [d0z] at h2
  rw [f0e, f0e, show (8 * j + i / 8) / 8 = j by omega, show (8 * j + i / 8) % 8 = i / 8 by omega, show i % 8 + 8 * (i / 8) = i by omega] at h2
  simpa [show i % 8 < 8 by omega] using h2
 ·have big : ∀ (y : UInt64), y.toNat.testBit i = false := fun y => Nat.testBit_lt_two_pow (Nat.lt_of_lt_of_le y.toNat_lt (by have := Nat.pow_le_pow_right (show 0 < 2 by omega) hi; simpa using this))
  rw [big, big]
theorem g0Z (l : List UInt8) : ∀ (S : List UInt64) (k i : Nat), S.length = 25 → k + l.length ≤ 200 → d0z (c0j S k l) i = if k ≤ i ∧ i < k + l.length then bx (d0z S i) (l.getD (i - k) 0) else d0z S i := by
 induction l with
 | nil => intro S k i _ _; rw [if_neg (by simp)]; rfl
 | cons x l ih =>
  intro S k i hS h
  simp only [List.length_cons] at h
  rw [c0j, ih _ _ _ (by rw [d0P, hS]) (by omega), j0l S hS _ _ _ (by omega)]
  by_cases e : i = k
  ·subst e
   rw [if_neg (by omega), if_pos rfl, if_pos (by simp)]
   simp
  ·by_cases hr : k + 1 ≤ i ∧ i < k + 1 + l.length
   ·rw [if_pos hr, if_neg e, if_pos (by simp; omega), show i - k = (i - (k + 1)) + 1 by omega, List.getD_cons_succ]
   ·rw [if_neg hr, if_neg e, if_neg (by simp; omega)]
theorem q0y (S : List UInt64) (n i : Nat) (h : i < n) : (toB S n).getD i 0 = d0z S i := by
 simp [toB, List.getD_eq_getElem?_getD, List.getElem?_range h]
theorem h0a (i : Nat) : d0z a0z i = 0 := by
 have hz : a0z.getD (i / 8) 0 = 0 := by
  rcases Nat.lt_or_ge (i / 8) 25 with h | h
  ·have : ∀ j, j < 25 → a0z.getD j 0 = 0 := by decide
   exact this _ h
  ·rw [List.getD_eq_getElem?_getD, List.getElem?_eq_none (by simpa [a0z] using h)]; rfl
 unfold d0z
 rw [hz]
 apply UInt8.toNat_inj.1
 rw [f0d]; simp
theorem v0Y (x : UInt8) : bx 0 x = x := by simp [bx]
theorem o0C (b : List UInt8) (hb : b.length = 200) (i : Nat) (hi : i < 200) : d0z (e0Z a0z b 200) i = b.getD i 0 := by
 rw [q0w _ _ _ (by omega), List.take_of_length_le (by omega), g0Z b _ _ _ (by simp [a0z]) (by omega), if_pos (by omega), h0a, v0Y]
 simp
theorem n0q (S : List UInt64) (hS : S.length = 25) (l b : List UInt8) (hl : l.length ≤ 200) (hb : b.length = 200) (h : ∀ i, i < 200 → b.getD i 0 = if i < l.length then bx (d0z S i) (l.getD i 0) else d0z S i) : e0Z a0z b 200 = c0j S 0 l := by
 refine q0x _ _ (by rw [g0l]; simp [a0z]) (by rw [g0W, hS]) (fun i hi => ?_)
 rw [o0C b hb i hi, g0Z l S 0 i hS (by omega), h i hi]
 simp
end Mvp
namespace Go.Proofs.YtemcankmggmgoaaGreatDoor
open Go.RowKit Go.Mv Mvp
theorem k0B : (Tryz.prog.info? 160).map (·.zero) = some (some (.agg (bs (List.replicate 136 0)).toArray)) := by kernel_rfl
def abs (st : List UInt64 × Nat) : List Value := ws st.1 ++ [.int .i64 (st.2 : Int)]
theorem q0z (st : List UInt64 × Nat) : (abs st).length = st.1.length + 1 := by simp [abs, a0L]
theorem h0b (st : List UInt64 × Nat) (h : st.1.length = 25) : (abs st)[25]? = some (.int .i64 (st.2 : Int)) := by
 rw [abs, List.getElem?_append_right (by rw [a0L, h]; omega), a0L, h]; rfl
theorem q0A (S : List UInt64) (k n : Nat) (h : S.length = 25) : (abs (S, k)).set 25 (.int .i64 (n : Int)) = abs (S, n) := by
 rw [abs, List.set_append_right _ _ (by rw [a0L, h]; omega), a0L, h]; rfl
theorem q0B (S : List UInt64) : b0B (a0v 24) (fun r => rcP r 8) S 24 = b0l S := by unfold b0l; rfl
theorem h0c (S : List UInt64) (k : Nat) : ws S ++ [Value.int .i64 (k : Int)] = abs (S, k) := by unfold abs; rfl
attribute [local irreducible] b0l b0B toB a0v
theorem e0H (g : Nat) (S : List UInt64) (k : Nat) (w : World) (hS : S.length = 25) (hg : Has w g (abs (S, k)) 132) :
  Calls Tryz.prog 108 #[.pointer (some ⟨g, 0, none⟩)] w fun e w' => e = .returned (.tuple #[]) ∧ Has w' g (abs (b0l S, k)) 132 ∧ Fr (One g) w w' := by
 rw [← h0c] at hg
 refine (l0Y g S [.int .i64 (k : Int)] 132 w hS hg).mono ?_
 rintro e w' ⟨h1, h2, h3⟩
 rw [q0B, h0c] at h2
 exact ⟨h1, h2, h3⟩
theorem t0c (k p : Nat) (l : List UInt8) (hl : l.length = p) (h : k + p ≤ 136) : splice (bs (List.replicate 136 0)) k (bs l) = bs (List.replicate k 0 ++ l ++ List.replicate (136 - k - p) 0) := by
 unfold splice
 rw [a0H, hl, e0C, l0C, ← c0A, ← c0A, List.append_assoc]
 rw [List.take_replicate, Nat.min_eq_left (by omega), List.drop_replicate, Nat.sub_sub]
def lenV : Value → Nat
 | .slice _ n _ => n
 | _ => 0
theorem h0d (g : Nat) (st : List UInt64 × Nat) (b : Option Addr) (n c : Nat) (l : List UInt8) (w : World) (hS : st.1.length = 25) (hat : st.2 < 136) (hn : n ≤ 1000000) (hnc : n ≤ c) (hg : Has w g (abs st) 132) (hb : RdB w b n l) (hbg : Off (One g) b) :
  Calls Tryz.prog 88 #[.pointer (some ⟨g, 0, none⟩), .slice b n c] w fun e w' => e = .returned (.tuple #[]) ∧ Has w' g (abs (c0i st l)) 132 ∧ Fr (One g) w w' := by
 go_enter Tryz.func88, Tryz.ntmps88
 go_wp2_with fail
 have hll := hb.len
 go_loopw [1] (fun v wr => ∃ (sj : List UInt64 × Nat) (r : List UInt8) (m : Nat) (a : Option Addr) (cc : Nat), v = .slice a m cc ∧ m ≤ cc ∧ m ≤ 1000000 ∧ RdB wr a m r ∧ Off (One g) a ∧ Has wr g (abs sj) 132 ∧ sj.2 < 136 ∧ sj.1.length = 25 ∧ c0i sj r = c0i st l ∧ Fr (One g) w wr) (fun v _ => lenV v)
 case atStart => exact ⟨st, l, n, b, c, rfl, hnc, hn, hb, hbg, hg, hat, hS, rfl, Fr.refl _ _⟩
 case round =>
  obtain ⟨⟨S, k⟩, r, m, a, cc, rfl, hcc, hmb, hra, hoa, hgj, hkj, hSj, hfe, hf⟩ := hrel
  clear hg hb hbg hat hS hll hn hnc
  simp only at hkj hSj
  have HF := qH hfe; clear hfe
  by_cases hlt : 0 < m
  ·have hc25 : wr.cell? ⟨g, 25, none⟩ = some (.int .i64 (k : Int)) := hgj.cell (h0b (S, k) hSj)
   have hf25 : wr.frozen? ⟨g, 25, none⟩ = false := hgj.free _ (by rw [q0z]; simp only; omega)
   have HS := qH hSj; clear hSj
   go_wp2_with (with_reducible refine wSk 16 ?_)
   obtain ⟨p, hp, hp1, hp2, hp3⟩ : ∃ p : Nat, (if 136 - (k : Int) < (m : Int) then 136 - (k : Int) else (m : Int)) = (p : Int) ∧ p ≤ m ∧ k + p ≤ 136 ∧ (p = m ∨ k + p = 136) := by
    refine ⟨min m (136 - k), ?_, by omega, by omega, by omega⟩
    split <;> omega
   refine x0v rfl rfl rfl rfl p hp ?_
   clear hp
   have HP := qH hp3; clear hp3
   go_wp2_with (with_reducible refine e0D (o := ⟨_, .alloc 160, _, _, _, _⟩) ?_)
   refine e0l rfl rfl k0B (bs (List.replicate 136 0)) (by simp [Value.cells]) ?_
   intro w1 hp1' hf1 hz1
   have hg1 := hgj.keep hf1 id
   have hr1 := hra.still hf1
   have hc1 : w1.cell? ⟨g, 25, none⟩ = some (.int .i64 (k : Int)) := hf1.cell id hc25
   have hgp : g < wr.heap.size := hgj.lt
   have hfr1 := hf.same hf1
   have hpw : w.heap.size ≤ wr.heap.size := hf.size
   have hra0 : Off (One wr.heap.size) a := fun x hx (e : x.block = wr.heap.size) => by
    obtain ⟨bb, o, rfl, hat⟩ := Rd.at hra hlt
    have := Rd.lt hra hlt
    simp only [Option.some.injEq] at hx
    subst hx
    simp at e
    omega
   generalize wr.heap.size = gp at *
   clear hgj hra hc25 hf25 hf1 hz1
   have hk136 : k < 136 := hkj
   go_wp2_with fail
   have e1 : ∀ wx, (Instr.sliceAt 160 (.pointer (some ⟨gp, 0, none⟩)) (some (.int .i64 (k : Int))) none none).run Tryz.prog wx = .ok (.slice (some ⟨gp, k, none⟩) (136 - k) (136 - k)) wx := fun wx => by
    have := e0T wx Tryz.underlying160 c0r gp 0 .i64 k hk136
    rwa [Nat.zero_add] at this
   have e2 : ∀ wx, (Instr.sliceAt 24 (.slice a m cc) none (some (.int .i64 (p : Int))) none).run Tryz.prog wx = .ok (.slice a p cc) wx := fun wx => d0h wx Tryz.underlying24 c0r a m cc .i64 p (by omega)
   refine wp_region_still_tail 8 (by kernel_rfl) (by kernel_rfl) ?_
   simp only [List.take_succ_cons, List.take_zero, List.drop_succ_cons, List.drop_zero]
   repeat still_step
   refine wpStill_nil ?_
   show wpList _ _ _ _ _ w1.drew
   have hrp : Rd w1.drew a p (bs (r.take p)) := by
    have hlen := hr1.len
    refine ⟨by rw [a0H, List.length_take]; omega, hr1.2.imp (fun h0 => by omega) ?_⟩
    rintro ⟨b, o, rfl, hc⟩
    refine ⟨b, o, rfl, fun i v hv => ?_⟩
    have := hc i v
    rw [← e0C, List.getElem?_take] at hv
    split at hv
    ·exact hc i v hv
    ·cases hv
   refine p0t rfl rfl Tryz.underlying24 c0r rfl rfl (hp1'.drew) hrp (h0W _) (by rw [a0H, List.length_replicate]; omega) ?_
   intro w2 hp2' hf2 hz2
   have hmin : min p (136 - k) = p := by omega
   have hrl : (r.take p).length = p := by rw [List.length_take, hr1.len]; omega
   rw [hmin, List.take_of_length_le (by rw [a0H, hrl]; exact Nat.le_refl _), t0c k p _ hrl hp2] at hp2'
   have hg2 := hg1.drew.keep hf2 (fun (h : g = gp) => by omega)
   have hr2 : RdB w2 a m r := hr1.keep ((Fr.refl (One gp) w1).drew.trans hf2 (fun _ _ t => t)) hra0
   have hfr2 : Fr (One g) w w2 := (hfr1.drew).new hf2 hpw
   have hgp2 := hp2'.lt
   clear hp1' hg1 hr1 hc1 hfr1 hf2 hz2 hrp e1 e2 hmin
   go_wp2_with fail
   have hc2 : w2.cell? ⟨g, 25, none⟩ = some (.int .i64 (k : Int)) := hg2.cell (h0b (S, k) HS.out)
   have e3 : ∀ wx, (Instr.sliceAt 160 (.pointer (some ⟨gp, 0, none⟩)) none (some (.int .i64 ((k : Int) + (p : Int)))) none).run Tryz.prog wx = .ok (.slice (some ⟨gp, 0, none⟩) (k + p) 136) wx := fun wx =>
    d0K wx Tryz.underlying160 c0r gp 0 .i64 (k + p) hp2
   have e4 : IntKind.i64.wrap ((k : Int) + (p : Int)) = (k : Int) + (p : Int) := IntWalk.i64_in _ (by omega)
   refine wp_region_still_tail 10 (by kernel_rfl) (by kernel_rfl) ?_
   simp only [List.take_succ_cons, List.take_zero, List.drop_succ_cons, List.drop_zero]
   repeat still_step
   refine wpStill_nil ?_
   show wpList _ _ _ _ _ w2.drew
   go_wp2_with fail
   have hrd : RdB w2.drew (some ⟨gp, 0, none⟩) (k + p) (List.replicate k 0 ++ r.take p) := by
    have := Rd.ofHas hp2'.drew 0 (n := k + p) (by rw [a0H, List.length_append, List.length_append, List.length_replicate, List.length_replicate, hrl]; omega)
    rw [List.drop_zero, e0C, List.take_left' (by simp [hrl])] at this
    exact this
   refine (q0m g S [.int .i64 (k : Int)] 132 _ (k + p) _ _ _ HS.out (by omega) hg2.drew hrd (fun x hx (e : x.block = g) => by simp only [Option.some.injEq] at hx; subst hx; simp at e; omega)).mono ?_
   rintro e w3 ⟨rfl, hg3, hf3, hz3⟩
   have hxb : e0Z S (List.replicate k 0 ++ r.take p) (k + p) = c0j S k (r.take p) := by
    have := i0i S k (r.take p) []
    rwa [List.append_nil, hrl] at this
   rw [hxb] at hg3
   have hr3 : RdB w3 a m r := hr2.keep ((Fr.refl (One g) w2).drew.trans hf3 (fun _ _ t => t)) hoa
   have hfr3 : Fr (One g) w w3 := hfr2.drew.trans hf3 (fun _ _ t => t)
   have hSl : (c0j S k (r.take p)).length = 25 := by rw [g0W, HS.out]
   have hfeed : c0i (c0i (S, k) (r.take p)) (r.drop p) = c0i st l := by rw [← c0Y, List.take_append_drop]; exact HF.out
   clear hg2 hr2 hfr2 hp2' hgp2 hc2 e3 e4 hrd hf3 hz3 hxb
   have hc3 : w3.cell? ⟨g, 25, none⟩ = some (.int .i64 (k : Int)) := hg3.cell (h0b (_, k) hSl)
   have hf3 : w3.frozen? ⟨g, 25, none⟩ = false := hg3.free _ (by rw [List.length_append, a0L, hSl]; simp)
   generalize hxs : c0j S k (r.take p) = S3 at *
   have HXS := qH hxs; clear hxs
   have HFE := qH hfeed; clear hfeed
   have HSL := qH hSl; clear hSl
   have HRL := qH hrl; clear hrl
   go_wp2_with (with_reducible refine wSk 47 ?_)
   refine g0x rfl rfl Tryz.underlying24 c0r rfl p m ⟨_, rfl⟩ rfl hp1 hcc ?_
   have hg4 : Has (w3.setCell ⟨g, 25, none⟩ (.int .i64 ((k + p : Nat) : Int))) g (abs (S3, k + p)) 132 := by
    have := hg3.set 25 (.int .i64 ((k + p : Nat) : Int))
    rw [show ws S3 ++ [Value.int .i64 (k : Int)] = abs (S3, k) from rfl, q0A _ _ _ HSL.out] at this
    exact this
   have hr4 : RdB (w3.setCell ⟨g, 25, none⟩ (.int .i64 ((k + p : Nat) : Int))) (c0m a p cc) (m - p) (r.drop p) := by
    have h1 := hr3.keep ((Fr.refl (One g) w3).setCell g 25 none (.int .i64 ((k + p : Nat) : Int)) (fun _ => rfl)) hoa
    have h2 := i0I h1 p m cc hp1 hcc (Nat.le_refl _)
    rw [l0C, e0C] at h2
    rwa [List.take_of_length_le (by rw [List.length_drop, h1.len]; exact Nat.le_refl _)] at h2
   have hfr4 : Fr (One g) w (w3.setCell ⟨g, 25, none⟩ (.int .i64 ((k + p : Nat) : Int))) := hfr3.setCell g 25 none _ (fun _ => rfl)
   have hoff4 := p0A hoa p cc
   have hsp : Value.int .i64 ((k : Int) + (p : Int)) = .int .i64 ((k + p : Nat) : Int) := by simp
   simp only [Int.natCast_add] at hg4 hr4 hfr4
   generalize w3.setCell ⟨g, 25, none⟩ (.int .i64 ((k : Int) + (p : Int))) = w4 at *
   clear hsp hg3 hr3 hfr3 hc3 hf3
   by_cases hfull : k + p = 136
   ·have hfb : ((k : Int) + (p : Int) == 136) = true := by rw [beq_iff_eq]; omega
    have HFULL := qH hfull; clear hfull
    have hc4 : w4.cell? ⟨g, 25, none⟩ = some (.int .i64 ((k : Int) + (p : Int))) := hg4.cell (h0b (S3, k + p) HSL.out)
    go_wp2_with fail
    refine (e0H g S3 (k + p) _ HSL.out hg4).mono ?_
    rintro e w5 ⟨rfl, hg5', hf5⟩
    have hr5 := hr4.keep hf5 hoff4
    have hfr5 : Fr (One g) w w5 := hfr4.trans hf5 (fun _ _ t => t)
    have hpl : (b0l S3).length = 25 := by rw [f0b, HSL.out]
    have hc5 : w5.cell? ⟨g, 25, none⟩ = some (.int .i64 ((k + p : Nat) : Int)) := hg5'.cell (h0b (_, k + p) hpl)
    have hf5f : w5.frozen? ⟨g, 25, none⟩ = false := hg5'.free _ (by rw [q0z]; simp only; omega)
    clear hg4 hr4 hfr4 hc4 hf5
    have HPL := qH hpl; clear hpl
    go_wp2_with fail
    go_roundw
    case rel =>
     have e : c0i (S, k) (r.take p) = (b0l S3, 0) := by rw [g0X _ _ _ (by rw [HRL.out]; exact HFULL.out) hkj, HXS.out]
     have h2 := HFE.out
     rw [e] at h2
     have hg6 := hg5'.set 25 (.int .i64 ((0 : Nat) : Int))
     rw [q0A _ _ _ HPL.out] at hg6
     exact ⟨(b0l S3, 0), r.drop p, m - p, c0m a p cc, cc - p, rfl, by omega, by omega, hr5.keep ((Fr.refl (One g) w5).setCell g 25 none _ (fun _ => rfl)) hoff4, hoff4, hg6, by simp, HPL.out, h2, hfr5.setCell g 25 none _ (fun _ => rfl)⟩
    case measure => have := HP.out; simp [lenV]; omega
   ·have hfb : ((k : Int) + (p : Int) == 136) = false := by rw [beq_eq_false_iff_ne]; omega
    have hc4 : w4.cell? ⟨g, 25, none⟩ = some (.int .i64 ((k : Int) + (p : Int))) := hg4.cell (h0b (S3, k + p) HSL.out)
    have hlt136 : k + p < 136 := by omega
    go_wp2_with fail
    go_roundw
    case rel =>
     have e : c0i (S, k) (r.take p) = (S3, k + p) := by rw [o0B _ _ _ (by rw [HRL.out]; exact hlt136), HXS.out, HRL.out]
     have h2 := HFE.out
     rw [e] at h2
     exact ⟨(S3, k + p), r.drop p, m - p, c0m a p cc, cc - p, rfl, by omega, by omega, hr4, hoff4, hg4, hlt136, HSL.out, h2, hfr4⟩
    case measure => have := HP.out; simp [lenV]; omega
  ·have hge : ¬ 0 < m := hlt
   have hm0 : m = 0 := by omega
   have hr0 : r = [] := List.eq_nil_of_length_eq_zero (by rw [hra.len, hm0])
   have HR := qH hr0; clear hr0 hm0
   go_wp2_with fail
   go_end0
   have h2 := HF.out
   rw [HR.out, g0n] at h2
   exact ⟨rfl, by rw [← h2]; exact hgj, hf⟩
end Go.Proofs.YtemcankmggmgoaaGreatDoor
namespace Mvp
theorem q0C (l : List UInt8) : ∀ (S : List UInt64) (k : Nat), k < 136 → (c0i (S, k) l).2 = (k + l.length) % 136 := by
 induction l with
 | nil => intro S k h; simp [g0n]; omega
 | cons x l ih =>
  intro S k h
  rw [d0A, k0y]
  split
  ·rename_i h1
   simp only at h1
   rw [ih _ _ (by omega), List.length_cons]; omega
  ·rename_i h1
   simp only at h1
   rw [ih _ _ (by omega), List.length_cons]
   congr 1; omega
def d0B (l : List UInt8) (e : UInt8) : List UInt8 := l ++ n0o (l.length % 136) e
theorem i0k (l : List UInt8) (e : UInt8) : (d0B l e).length = l.length + (136 - l.length % 136) := by
 rw [d0B, List.length_append, n0p _ _ (Nat.mod_lt _ (by decide))]
theorem o0D (l : List UInt8) (e : UInt8) : (d0B l e).length % 136 = 0 := by
 rw [i0k]; omega
theorem q0D (l : List UInt8) (e : UInt8) (m : Nat) (hm : m = 135 - l.length % 136) : (l ++ e :: List.replicate m 0).set (l.length + m) (bx ((l ++ e :: List.replicate m 0).getD (l.length + m) 0) 0x80) = d0B l e := by
 subst hm
 have h2 : (l ++ e :: List.replicate (135 - l.length % 136) 0).getD (l.length + (135 - l.length % 136)) 0 = (e :: List.replicate (135 - l.length % 136) 0).getD (135 - l.length % 136) 0 := by
  rw [List.getD_eq_getElem?_getD, List.getD_eq_getElem?_getD, List.getElem?_append_right (by omega), Nat.add_sub_cancel_left]
 rw [h2, List.set_append_right _ _ (by omega), Nat.add_sub_cancel_left]
 rfl
theorem k0C (l : List UInt8) (e : UInt8) : h0S (c0i (a0z, 0) l) e = (c0i (a0z, 0) (d0B l e)).1 := by
 rw [h0S, d0B, c0Y, q0C _ _ _ (by decide), Nat.zero_add]
def d0C (p : List UInt8) (i : Nat) : List UInt64 := (c0i (a0z, 0) (p.take i)).1
theorem o0E (p : List UInt8) (i : Nat) : (d0C p i).length = 25 := by rw [d0C, f0c]; rfl
theorem m0b (p : List UInt8) : d0C p 0 = a0z := by rw [d0C, List.take_zero, g0n]
theorem o0F (l : List UInt8) (e : UInt8) (i : Nat) (h : (d0B l e).length ≤ i) : d0C (d0B l e) i = h0S (c0i (a0z, 0) l) e := by
 rw [d0C, List.take_of_length_le h, k0C]
theorem m0c (p : List UInt8) (i : Nat) (hi : i % 136 = 0) (h : i + 136 ≤ p.length) : d0C p (i + 136) = b0l (c0j (d0C p i) 0 ((p.drop i).take 136)) := by
 have hl : (p.take i).length = i := by rw [List.length_take]; omega
 have h2 : (c0i (a0z, 0) (p.take i)).2 = 0 := by rw [q0C _ _ _ (by decide), hl]; omega
 have hm : ((p.drop i).take 136).length = 136 := by rw [List.length_take, List.length_drop]; omega
 have h3 : c0i (a0z, 0) (p.take i) = (d0C p i, 0) := Prod.ext rfl h2
 rw [d0C, List.take_add, c0Y, h3, g0X _ _ _ (by rw [hm]) (by decide)]
def addB (b p : List UInt8) : Nat → List UInt8
 | 0 => b
 | j + 1 => (addB b p j).set j (bx ((addB b p j).getD j 0) (p.getD j 0))
theorem k0D (b p : List UInt8) : addB b p 0 = b := rfl
theorem h0e (b p : List UInt8) (j : Nat) : addB b p (j + 1) = (addB b p j).set j (bx ((addB b p j).getD j 0) (p.getD j 0)) := rfl
theorem g0o (b p : List UInt8) (j : Nat) : (addB b p j).length = b.length := by
 induction j with
 | zero => rfl
 | succ j ih => rw [h0e, List.length_set, ih]
theorem t0d (b p : List UInt8) (j : Nat) (hj : j ≤ b.length) (i : Nat) (hi : i < b.length) : (addB b p j).getD i 0 = if i < j then bx (b.getD i 0) (p.getD i 0) else b.getD i 0 := by
 induction j generalizing i with
 | zero => simp [k0D]
 | succ j ih =>
  rw [h0e, List.getD_eq_getElem?_getD, List.getElem?_set]
  by_cases e : j = i
  ·subst e
   rw [if_pos rfl, if_pos (by rw [g0o]; omega), if_pos (by omega), ih (by omega) j (by omega), if_neg (by omega)]
   rfl
  ·rw [if_neg e, ← List.getD_eq_getElem?_getD, ih (by omega) i hi]
   by_cases h1 : i < j
   ·rw [if_pos h1, if_pos (by omega)]
   ·rw [if_neg h1, if_neg (by omega)]
theorem t0e (S : List UInt64) (hS : S.length = 25) (p : List UInt8) (hp : 136 ≤ p.length) : c0h (addB (toB S 200) p 136) = toB (b0l (c0j S 0 (p.take 136))) 200 := by
 have hl : (p.take 136).length = 136 := by rw [List.length_take]; omega
 unfold c0h
 rw [n0q S hS (p.take 136) _ (by omega) (by rw [g0o, a0X]) (fun i hi => ?_)]
 rw [t0d _ _ _ (by rw [a0X]; omega) i (by rw [a0X]; omega), q0y _ _ _ hi, hl]
 by_cases h : i < 136
 ·rw [if_pos h, if_pos h]
  congr 1
  simp only [List.getD_eq_getElem?_getD, List.getElem?_take, if_pos h]
 ·rw [if_neg h, if_neg h]
theorem t0f (S : List UInt64) (hS : S.length = 25) : c0h (toB S 200) = toB (b0l S) 200 := by
 unfold c0h
 rw [n0q S hS [] _ (by simp) (by rw [a0X]) (fun i hi => by rw [q0y _ _ _ hi]; simp)]
 rfl
theorem t0g (S : List UInt64) : (toB S 200).take 136 = toB S 136 := by
 unfold toB
 rw [← List.map_take, List.take_range, Nat.min_eq_left (by omega)]
theorem q0E : toB a0z 200 = List.replicate 200 0 := by
 have key : ∀ n, toB a0z n = List.replicate n 0 := by
  intro n
  refine List.eq_replicate_iff.2 ⟨a0X _ _, fun x hx => ?_⟩
  unfold toB at hx
  obtain ⟨i, _, rfl⟩ := List.mem_map.1 hx
  exact h0a i
 exact key 200
end Mvp
namespace Go.Proofs.YtemcankmggmgoaaGreatDoor
section
open Go.RowKit Go.Mv Mvp
attribute [local irreducible] b0l b0B toB a0v a0I b0m c0h
theorem o0G (l : List UInt8) (e : UInt8) (m : Nat) : bs (l ++ e :: List.replicate m 0) ++ bs [0] = bs (l ++ e :: List.replicate (m + 1) 0) := by
 rw [← c0A, List.replicate_succ']; simp
theorem Rd.take {w : World} {a : Option Addr} {n : Nat} {vs : List Value} (h : Rd w a n vs) (p : Nat) (hp : p ≤ n) : Rd w a p (vs.take p) := by
 refine ⟨by rw [List.length_take, h.len]; omega, h.2.imp (fun h0 => by omega) ?_⟩
 rintro ⟨b, o, rfl, hc⟩
 refine ⟨b, o, rfl, fun i v hv => ?_⟩
 rw [List.getElem?_take] at hv
 split at hv
 ·exact hc i v hv
 ·cases hv
theorem f0A (l m : List UInt8) : mkS l ++ mkS m = mkS (l ++ m) := by
 apply ByteArray.ext
 simp [mkS]
theorem m0d (l : List UInt8) (n : Nat) : (mkS l).extract 0 n = mkS (l.take n) := by
 apply ByteArray.ext
 simp [mkS]
theorem j0m (S : List UInt64) : a0I S 0 = [] := by unfold a0I; rfl
theorem m0e (S : List UInt64) : b0m S 0 = S := by unfold b0m; rfl
def u0O : Value → Nat
 | .string s => s.size
 | _ => 0
theorem o0H (n j : Nat) : 136 * j < n ↔ j < e0h n := by unfold e0h; omega
theorem h0f (s : ByteArray) (e : UInt8) (n : Nat) (w : World) (hs : s.size ≤ 1000000) (hn : n ≤ 20000) :
  Calls Tryz.prog 65 #[.string s, .int .u8 (e.toNat : Int), .int .i64 (n : Int)] w fun r w' => r = .returned (.string (mkS (a0C s.data.toList e n))) ∧ Fr Nob w w' := by
 obtain ⟨l, rfl⟩ : ∃ l, s = mkS l := ⟨_, (f0X s).symm⟩
 rw [a0w] at hs
 rw [b0b]
 go_enter Tryz.func65, Tryz.ntmps65
 go_wp2_with (with_reducible refine wSk 13 ?_)
 refine d0e rfl rfl Tryz.underlying9 Tryz.underlying24 Tryz.underlying5 rfl (by rw [a0w]; unfold maxLen; omega) w.heap.size (Nat.le_refl _) ?_
 intro cap w1 hown1 hf1 hz1
 rw [b0b, a0w] at hown1
 rw [a0w]
 go_wp2_with (with_reducible refine wSk 15 ?_)
 refine p0D rfl rfl Tryz.underlying24 b0w e rfl ?_
 intro w2 hg2 hf2 hz2
 have hown2 := hown1.still hf2
 have hfr2 := hf1.then hf2
 generalize w1.heap.size = g1 at *
 clear hown1 hf1 hf2 hz2 hz1
 go_wp2_with (with_reducible refine wSk 16 ?_)
 refine b0L rfl rfl Tryz.underlying24 b0w rfl (by decide) hown2 rfl rfl (Rd.whole hg2) (h0W _) (by simp [maxLen]; omega) (by simp; omega) hfr2.size ?_
 intro v3 w3 hown3 hf3 hb3
 have hfr3 : Fr Nob w w3 := hown2.fr hfr2 (Nat.le_refl _) hf3
 clear hown2 hfr2 hg2 hf3 hb3
 go_wp2_with fail
 go_loopw [7] (fun v wr => ∃ m, m ≤ 135 - l.length % 136 ∧ Own wr w.heap.size 5 1 v (l.length + 1 + m) (bs (l ++ e :: List.replicate m 0)) ∧ Fr Nob w wr) (fun v _ => l.length + 136 - lenV v)
 case atStart => exact ⟨0, Nat.zero_le _, by simpa [bs] using hown3, hfr3⟩
 case round =>
  obtain ⟨m, hm, hown, hf⟩ := hrel
  clear hown3 hfr3
  obtain ⟨a, c, rfl, hc, hrd, hna⟩ := hown.form
  have hmod := Nat.mod_lt l.length (show 0 < 136 by decide)
  by_cases hlt : (l.length + 1 + m) % 136 = 0
  ·have hb : (((l.length : Int) + 1 + (m : Int)) % 136 != 0) = false := by simp; omega
   have hmk : m = 135 - l.length % 136 := by omega
   have HMK := qH hmk; clear hmk
   have HMOD := qH hmod; clear hmod
   have HLT := qH hlt; clear hlt
   obtain ⟨gp, op, cp, hv, hgp, hgp2, hcp, hcm, hget, hfree, hput⟩ := hown.cells (by omega)
   simp only [Value.slice.injEq] at hv
   obtain ⟨rfl, -, rfl⟩ := hv
   have hlen : (l ++ e :: List.replicate m 0).length = l.length + 1 + m := by simp; omega
   have hcl : wr.cell? ⟨gp, op + (l.length + m), none⟩ = some (.int .u8 (((l ++ e :: List.replicate m 0).getD (l.length + m) 0).toNat : Int)) := hget _ _ (f0J _ _ (by omega))
   have hfl := hfree (l.length + m) (by omega)
   have hput2 := hput (l.length + m)
   clear hget hfree hput hrd hna
   generalize hy : (l ++ e :: List.replicate m 0).getD (l.length + m) 0 = y at hcl
   have HY := qH hy; clear hy
   have hbx : bits BinOp.xor IntKind.u8 (y.toNat : Int) 128 = ((bx y 128).toNat : Int) := i0H y 128
   go_wp2_with (with_reducible refine wSk 36 ?_)
   have hown4 := hput2 (.int .u8 ((bx y 0x80).toNat : Int)) (by omega)
   rw [e0J, ← HY.out, q0D l e m HMK.out] at hown4
   rw [HY.out] at hown4
   have hfr4 : Fr Nob w (wr.setCell ⟨gp, op + (l.length + m), none⟩ (.int .u8 ((bx y 128).toNat : Int))) := hf.setCell gp _ none _ (fun h => by omega)
   have hgp4 : gp < (wr.setCell ⟨gp, op + (l.length + m), none⟩ (.int .u8 ((bx y 128).toNat : Int))).heap.size := by simpa using hgp2
   generalize wr.setCell ⟨gp, op + (l.length + m), none⟩ (.int .u8 ((bx y 128).toNat : Int)) = w4 at *
   have hpl := i0k l e
   have hpm := o0D l e
   have hpe := o0F l e
   have hN : l.length + 1 + m = (d0B l e).length := by rw [hpl, HMK.out]; have := HMOD.out; omega
   have hpb : (d0B l e).length ≤ 1000136 := by rw [hpl]; omega
   rw [hN] at hown4 ⊢
   have hrd4 : RdB w4 (some ⟨gp, op, none⟩) (d0B l e).length (d0B l e) := by
    obtain ⟨a, cc, hv, _, hr, _⟩ := hown4.form
    cases hv
    rw [Nat.mul_one] at hr; exact hr
   clear hown hown4 hf hgp2 hput2 hcl hfl hbx HY hlen hpl hb HLT hc hcm hcp HMK
   generalize hP : d0B l e = P at *
   have HP := qH hP; clear hP
   refine c0p rfl rfl Tryz.underlying24 b0w rfl rfl rfl 200 200 (by simp) (by simp) (by omega) (by omega) (by unfold maxLen; omega) ?_
   intro w5 hg5 hf5 hz5
   have hs5 : Own w5 w4.heap.size 5 1 (.slice (some ⟨w4.heap.size, 0, none⟩) 200 200) 200 (bs (toB a0z 200)) := by
    rw [q0E]
    have := Own.made hg5 w4.heap.size (Nat.le_refl _) 1 200 200 (Nat.le_refl _) (by unfold maxLen; omega) (by simp)
    rw [List.take_of_length_le (by simp)] at this
    exact this
   have hrd5 := hrd4.still hf5
   have hfr5 := hfr4.then hf5
   have hb5 : w4.heap.size ≤ w5.heap.size := hf5.size
   have hwb : w.heap.size ≤ w4.heap.size := hfr4.size
   generalize w4.heap.size = b5 at *
   clear hg5 hf5 hz5 hrd4 hfr4
   go_wp2_with fail
   go_loopw [9, 8] (fun i v wr => ∃ I : Nat, I ≤ P.length ∧ I % 136 = 0 ∧ i = .int .i64 (I : Int) ∧ Own wr b5 5 1 v 200 (bs (toB (d0C P I) 200)) ∧ RdB wr (some ⟨gp, op, none⟩) P.length P ∧ b5 ≤ wr.heap.size ∧ Fr Nob w wr) (fun i _ _ => (P.length - intOf i).toNat)
   case atStart => exact ⟨0, by omega, rfl, rfl, by rw [m0b]; exact hs5, hrd5, hb5, hfr5⟩
   case round =>
    obtain ⟨I, hk, hI, rfl, hst, hrdk, hbk, hfk⟩ := hrel
    clear hs5 hrd5 hb5 hfr5
    have hSl := o0E P I
    by_cases hlt : I < P.length
    ·have hltI : (I : Int) < (P.length : Int) := by omega
     have hk2 : I + 136 ≤ P.length := by omega
     have hsucc := m0c P I hI hk2
     generalize hS0 : d0C P I = S at *
     have HS0 := qH hS0; clear hS0
     have HI := qH hI; clear hI
     have HSU := qH hsucc; clear hsucc
     have HSL := qH hSl; clear hSl
     have HPE := qH hpe; clear hpe
     have HPM := qH hpm; clear hpm
     obtain ⟨gs, os, cs, rfl, hgs, hgs2, hcs, hcm, -, -, -⟩ := hst.cells (by omega)
     obtain ⟨wo, rfl⟩ : ∃ wo : World, wo = wr := ⟨_, rfl⟩
     go_wp2_with fail
     go_loopw [10] (fun j wr => ∃ jn : Nat, jn ≤ 136 ∧ j = .int .i64 (jn : Int) ∧ Own wr b5 5 1 (.slice (some ⟨gs, os, none⟩) 200 cs) 200 (bs (addB (toB S 200) (P.drop I) jn)) ∧ RdB wr (some ⟨gp, op, none⟩) P.length P ∧ b5 ≤ wr.heap.size ∧ Fr Nob w wr) (fun j _ => (136 - intOf j).toNat)
     case atStart => exact ⟨0, by omega, rfl, by rw [k0D]; exact hst, hrdk, hbk, hfk⟩
     case round =>
      obtain ⟨j, hj, rfl, hsj, hrdj, hbj, hfj⟩ := hrel
      clear hst hrdk hbk hfk
      by_cases hjlt : j < 136
      ·have hjI : (j : Int) < 136 := by omega
       obtain ⟨gs', os', cs', hv, -, hgs3, -, -, hget, hfree, hput⟩ := hsj.cells (by omega)
       simp only [Value.slice.injEq, Option.some.injEq, Addr.mk.injEq] at hv
       obtain ⟨⟨rfl, rfl, -⟩, -, rfl⟩ := hv
       have hc1 : wr.cell? ⟨gs, os + j, none⟩ = some (.int .u8 (((addB (toB S 200) (P.drop I) j).getD j 0).toNat : Int)) := hget _ _ (f0J _ _ (by rw [g0o, a0X]; omega))
       have hf1 := hfree j (by omega)
       have hput1 := hput j
       have hc2 : wr.cell? ⟨gp, op + (I + j), none⟩ = some (.int .u8 ((P.getD (I + j) 0).toNat : Int)) := by
        obtain ⟨b, o, he, hh⟩ := hrdj.at (by omega)
        simp only [Option.some.injEq, Addr.mk.injEq] at he
        obtain ⟨rfl, rfl, -⟩ := he
        exact hh _ (by omega)
       clear hget hfree hput
       generalize hx : (addB (toB S 200) (P.drop I) j).getD j 0 = x at hc1
       generalize hy : P.getD (I + j) 0 = y at hc2
       have HX := qH hx; clear hx
       have HY := qH hy; clear hy
       go_wp2_with fail
       try go_region
       all_goals go_wp2
       go_roundw
       case rel =>
        have e : (P.drop I).getD j 0 = y := by
         rw [← HY.out]; simp [List.getD_eq_getElem?_getD, List.getElem?_drop]
        have h1 := hput1 (.int .u8 ((bx x y).toNat : Int)) (by omega)
        rw [e0J, ← HX.out, ← e, ← h0e] at h1
        rw [HX.out, e] at h1
        refine ⟨j + 1, by omega, by go_num, h1, ?_, ?_, ?_⟩
        ·exact hrdj.keep ((Fr.refl (One gs) wr).setCell gs _ none _ (fun _ => rfl)).drew (fun a ha (hh : a.block = gs) => by simp only [Option.some.injEq] at ha; subst ha; simp at hh; omega)
        ·simpa using hbj
        ·exact (hfj.setCell gs _ none _ (fun h => by omega)).drew
       case measure => simp [intOf]; omega
      ·have hge : ¬ ((j : Int) < 136) := by omega
       have hj136 : j = 136 := by omega
       have HJ := qH hj136; clear hj136
       go_wp2_with (with_reducible refine wSk 62 ?_)
       have hrs : RdB wr (some ⟨gs, os, none⟩) 200 (addB (toB S 200) (P.drop I) 136) := by
        obtain ⟨a, cc, hv, _, hr, _⟩ := hsj.form
        cases hv
        rw [HJ.out, Nat.mul_one] at hr; exact hr
       refine d0p rfl rfl Tryz.underlying24 Tryz.underlying5 Tryz.underlying9 rfl hrs ?_
       go_wp2_with fail
       refine (f0S (mkS (addB (toB S 200) (P.drop I) 136)) _ (by rw [a0w, g0o, a0X])).mono ?_
       rintro e' w6 ⟨rfl, hf6⟩
       rw [b0b, t0e S HSL.out _ (by rw [List.length_drop]; omega), ← HSU.out]
       have hb6 : b5 ≤ w6.heap.size := Nat.le_trans hbj hf6.size
       go_wp2_with (with_reducible refine wSk 64 ?_)
       refine d0e rfl rfl Tryz.underlying9 Tryz.underlying24 Tryz.underlying5 rfl (by rw [a0w, a0X]; unfold maxLen; omega) b5 hb6 ?_
       intro c7 w7 hs7 hf7 hz7
       rw [b0b, a0w, a0X] at hs7
       rw [a0w, a0X]
       have hf67 := hf6.then hf7
       have hrd7 := hrdj.still hf67
       have hfr7 := hfj.then hf67
       have hb7 : b5 ≤ w7.heap.size := Nat.le_trans hb6 hf7.size
       generalize w6.heap.size = g6 at *
       clear hsj hrdj hfj hrs hf6 hf7 hz7 hf67
       go_wp2_with fail
       go_roundw
       case rel => exact ⟨I + 136, by omega, by have := HI.out; omega, by go_num, hs7, hrd7, hb7, hfr7⟩
       case measure => simp [intOf]; omega
    ·have hge : ¬ ((I : Int) < (P.length : Int)) := by omega
     have hend : d0C P I = h0S (c0i (a0z, 0) l) e := hpe I (by omega)
     rw [hend] at hst hSl
     clear hpe hend
     generalize hE : h0S (c0i (a0z, 0) l) e = S0 at *
     have HE := qH hE; clear hE
     have HPM := qH hpm; clear hpm
     clear hrdk
     go_wp2_with fail
     go_loopw [11, 8] (fun o v wr => ∃ j : Nat, j ≤ e0h n ∧ o = .string (mkS (a0I S0 j)) ∧ Own wr b5 5 1 v 200 (bs (toB (b0m S0 j) 200)) ∧ b5 ≤ wr.heap.size ∧ Fr Nob w wr) (fun o _ _ => n - u0O o)
     case atStart => exact ⟨0, Nat.zero_le _, by rw [j0m]; rfl, by rw [m0e]; exact hst, hbk, hfk⟩
     case round =>
      obtain ⟨j, hj, rfl, hsj, hbj, hfj⟩ := hrel
      clear hst hbk hfk
      have hpi := o0H n j
      have hql : (mkS (a0I S0 j)).size = 136 * j := by rw [a0w, e0G]
      generalize hq : mkS (a0I S0 j) = q at *
      have HQ := qH hq; clear hq
      by_cases hlt : 136 * j < n
      ·have hltI : (q.size : Int) < (n : Int) := by omega
       have hj1 := hpi.1 hlt
       have HPI := qH hpi; clear hpi
       have HQL := qH hql; clear hql
       have HLT := qH hlt; clear hlt
       have HSL := qH hSl; clear hSl
       obtain ⟨a, cc, rfl, hcc, hrs, hna⟩ := hsj.form
       have e1 : ∀ wx, (Instr.sliceAt 24 (.slice a 200 cc) none (some (.int .i64 136)) none).run Tryz.prog wx = .ok (.slice a 136 cc) wx := fun wx => d0h wx Tryz.underlying24 c0r a 200 cc .i64 136 (by omega)
       go_wp2_with (with_reducible refine wSk 72 ?_)
       have hrs2 : RdB wr a 136 (toB (b0m S0 j) 136) := by
        have h2 := hrs
        rw [Nat.mul_one] at h2
        have h3 := Rd.take h2 136 (by omega)
        rwa [e0C, t0g] at h3
       have hrs3 : RdB wr a 200 (toB (b0m S0 j) 200) := by
        rw [Nat.mul_one] at hrs; exact hrs
       clear hrs hna
       have hcat : ¬ 9223372036854775807 < q.size + (mkS (toB (b0m S0 j) 136)).size := by have := HLT.out; rw [a0w, a0X, HQL.out]; omega
       refine d0p rfl rfl Tryz.underlying24 Tryz.underlying5 Tryz.underlying9 rfl hrs2 ?_
       go_wp2_with (with_reducible refine wSk 75 ?_)
       have hqq : q ++ mkS (toB (b0m S0 j) 136) = mkS (a0I S0 (j + 1)) := by rw [← HQ.out, f0A, ← f0T]
       rw [hqq]
       refine d0p rfl rfl Tryz.underlying24 Tryz.underlying5 Tryz.underlying9 rfl hrs3 ?_
       clear hcat
       go_wp2_with fail
       refine (f0S (mkS (toB (b0m S0 j) 200)) _ (by rw [a0w, a0X])).mono ?_
       rintro e' w6 ⟨rfl, hf6⟩
       rw [b0b, t0f _ (by rw [k0A, HSL.out]), ← i0j]
       have hb6 : b5 ≤ w6.heap.size := Nat.le_trans hbj hf6.size
       go_wp2_with (with_reducible refine wSk 77 ?_)
       refine d0e rfl rfl Tryz.underlying9 Tryz.underlying24 Tryz.underlying5 rfl (by rw [a0w, a0X]; unfold maxLen; omega) b5 hb6 ?_
       intro c7 w7 hs7 hf7 hz7
       rw [b0b, a0w, a0X] at hs7
       rw [a0w, a0X]
       have hf67 := hf6.then hf7
       have hfr7 := hfj.then hf67
       have hb7 : b5 ≤ w7.heap.size := Nat.le_trans hb6 hf7.size
       generalize w6.heap.size = g6 at *
       clear hsj hfj hrs2 hrs3 hf6 hf7 hz7 hf67
       go_wp2_with fail
       go_roundw
       case rel => exact ⟨j + 1, hj1, rfl, hs7, hb7, hfr7⟩
       case measure =>
        have h1 := HLT.out; have h2 := HQL.out
        have h3 : (mkS (a0I S0 (j + 1))).size = 136 * (j + 1) := by rw [a0w, e0G]
        simp [u0O, h3]; omega
      ·have hge : ¬ ((q.size : Int) < (n : Int)) := by omega
       have hjp : j = e0h n := by have := hpi.2; omega
       have HJP := qH hjp; clear hjp
       go_wp2_with fail
       go_ret
       refine ⟨?_, hfj⟩
       rw [← HQ.out, HJP.out, m0d]
       unfold a0C v0X
       rw [HE.out]
       rfl
  ·have hb : (((l.length : Int) + 1 + (m : Int)) % 136 != 0) = true := by simp; omega
   go_wp2_with (with_reducible refine wSk 22 ?_)
   refine p0D rfl rfl Tryz.underlying24 b0w 0 rfl ?_
   intro w2 hg2 hf2 hz2
   have hown2 := hown.still hf2
   have hfr2 := hf.then hf2
   generalize wr.heap.size = g2 at *
   clear hown hf hf2 hz2 hrd hna
   have HMOD := qH hmod; clear hmod
   have HLT := qH hlt; clear hlt
   go_wp2_with (with_reducible refine wSk 23 ?_)
   refine b0L rfl rfl Tryz.underlying24 b0w rfl (by decide) hown2 rfl rfl (Rd.whole hg2) (h0W _) (by simp [maxLen]; omega) (by simp; omega) hfr2.size ?_
   intro v3 w3 hown3 hf3 hb3
   have hfr3 : Fr Nob w w3 := hown2.fr hfr2 (Nat.le_refl _) hf3
   rw [o0G] at hown3
   clear hown2 hfr2 hg2 hf3 hb3
   go_wp2_with fail
   go_roundw
   case rel => exact ⟨m + 1, by have := HMOD.out; have := HLT.out; omega, hown3, hfr3⟩
   case measure =>
    obtain ⟨a8, c8, rfl, _⟩ := hown3.form
    have := HLT.out; have := HMOD.out
    simp [lenV]; omega
end
section
open Go.RowKit Go.Mv Mvp
theorem k0E (S : List UInt64) : a0I S 0 = [] := by unfold a0I; rfl
theorem o0I (S : List UInt64) : b0m S 0 = S := by unfold b0m; rfl
theorem v0Z {w : World} {base : Nat} {T : TypeId} {a : Option Addr} {m c : Nat} {L : List Value} (h : Own w base T 1 (.slice a m c) m L) (n : Nat) (hn : n ≤ m) : Own w base T 1 (.slice a n n) n (L.take n) := by
 obtain ⟨hl, h | ⟨g, o, cap, B, hv, hb, hg, h1, h2, h3, h4⟩⟩ := h
 ·obtain ⟨hv, hm⟩ := h
  cases hv
  have : n = 0 := by omega
  subst this
  exact ⟨by simp, .inl ⟨rfl, rfl⟩⟩
 ·cases hv
  refine ⟨by rw [List.length_take]; omega, .inr ⟨g, o, n, B, rfl, hb, hg, Nat.le_refl _, by omega, by omega, ?_⟩⟩
  rw [← h4, List.take_take]
  congr 1
  omega
attribute [local irreducible] b0l b0B toB a0v a0I b0m
theorem w0a (k : Nat) (e : UInt8) (h : k < 136) : ((List.replicate 136 (0 : UInt8)).set k e).set 135 (bx (((List.replicate 136 (0 : UInt8)).set k e).getD 135 0) 0x80) = List.replicate k 0 ++ n0o k e := by
 have h1 : (List.replicate 136 (0 : UInt8)).set k e = List.replicate k 0 ++ (e :: List.replicate (135 - k) 0) := by
  have : (List.replicate 136 (0 : UInt8)) = List.replicate k 0 ++ (0 :: List.replicate (135 - k) 0) := by
   rw [← List.replicate_succ, List.replicate_append_replicate]; congr 1; omega
  rw [this, List.set_append_right _ _ (by simp)]
  simp
 have h2 : (List.replicate k 0 ++ (e :: List.replicate (135 - k) 0)).getD 135 0 = (e :: List.replicate (135 - k) 0).getD (135 - k) 0 := by
  rw [List.getD_eq_getElem?_getD, List.getD_eq_getElem?_getD, List.getElem?_append_right (by simp; omega), List.length_replicate]
 rw [h1, h2, List.set_append_right _ _ (by simp; omega)]
 simp only [List.length_replicate, n0o]
theorem q0F (n j : Nat) : 136 * j < n ↔ j < e0h n := by unfold e0h; omega
theorem q0G (g : Nat) (S : List UInt64) (k : Nat) (e : UInt8) (n : Nat) (w : World) (hS : S.length = 25) (hk : k < 136) (hn : n ≤ 20000) (hg : Has w g (abs (S, k)) 132) :
  Calls Tryz.prog 79 #[.pointer (some ⟨g, 0, none⟩), .int .u8 (e.toNat : Int), .int .i64 (n : Int)] w fun r w' => ∃ v, r = .returned v ∧ Own w' w.heap.size 5 1 v n (bs (v0X (h0S (S, k) e) n)) ∧ Fr (One g) w w' := by
 go_enter Tryz.func79, Tryz.ntmps79
 go_wp2_with (with_reducible refine e0D (o := ⟨_, .alloc 160, _, _, _, _⟩) ?_)
 refine e0l rfl rfl k0B (bs (List.replicate 136 0)) (by simp [Value.cells]) ?_
 intro w1 hl1 hf1 hz1
 have hg1 := hg.keep hf1 id
 have hgl := hg.lt
 have hfr1 : Fr (One g) w w1 := (Fr.refl (One g) w).same hf1
 have hb0 : w.heap.size ≤ w1.heap.size := hf1.size
 generalize hgl0 : w.heap.size = gl at *
 have HGL := qH hgl0; clear hgl0
 clear hf1 hz1 hg
 have hc25 : w1.cell? ⟨g, 25, none⟩ = some (.int .i64 (k : Int)) := hg1.cell (h0b (S, k) hS)
 obtain ⟨vk, hck, hfk⟩ := hl1.ready (i := k) (by rw [a0H]; simpa using hk)
 have hkI : (k : Int) < 136 := by omega
 go_wp2_with (with_reducible refine wSk 15 ?_)
 have hl2 := hl1.set k (.int .u8 (e.toNat : Int))
 rw [e0J] at hl2
 have hg2 := hg1.other (g' := gl) k none (.int .u8 (e.toNat : Int)) (by omega)
 have hfr2 : Fr (One g) w (w1.setCell ⟨gl, k, none⟩ (.int .u8 (e.toNat : Int))) := hfr1.setCell gl k none _ (fun h => by have := HGL.out; omega)
 have hsz2 : gl < (w1.setCell ⟨gl, k, none⟩ (.int .u8 (e.toNat : Int))).heap.size := hl2.lt
 generalize w1.setCell ⟨gl, k, none⟩ (.int .u8 (e.toNat : Int)) = w2 at *
 clear hl1 hg1 hfr1 hc25 hck hfk hb0
 have hc135 : w2.cell? ⟨gl, 135, none⟩ = some (.int .u8 ((((List.replicate 136 (0 : UInt8)).set k e).getD 135 0).toNat : Int)) := hl2.cell (f0J _ _ (by simp))
 have hf135 : w2.frozen? ⟨gl, 135, none⟩ = false := hl2.free _ (by rw [a0H]; simp)
 generalize hy : ((List.replicate 136 (0 : UInt8)).set k e).getD 135 0 = y at hc135
 have HY := qH hy; clear hy
 show wpList _ _ _ _ _ _
 go_wp2_with fail
 have hbx : bits BinOp.xor IntKind.u8 (y.toNat : Int) 128 = ((bx y 128).toNat : Int) := i0H y 128
 rw [hbx]
 have hl3 := hl2.set 135 (.int .u8 ((bx y 0x80).toNat : Int))
 rw [e0J, ← HY.out, w0a k e hk] at hl3
 rw [HY.out] at hl3
 have hg3 := hg2.other (g' := gl) 135 none (.int .u8 ((bx y 128).toNat : Int)) (by omega)
 have hfr3 : Fr (One g) w (w2.setCell ⟨gl, 135, none⟩ (.int .u8 ((bx y 128).toNat : Int))) := hfr2.setCell gl 135 none _ (fun h => by have := HGL.out; omega)
 generalize w2.setCell ⟨gl, 135, none⟩ (.int .u8 ((bx y 128).toNat : Int)) = w3 at *
 have hpl : (n0o k e).length = 136 - k := n0p k e hk
 have hne : g ≠ gl := by omega
 clear hl2 hg2 hfr2 hc135 hf135 hbx hsz2 HY
 have e1 : ∀ wx, (Instr.sliceAt 160 (.pointer (some ⟨gl, 0, none⟩)) none none none).run Tryz.prog wx = .ok (.slice (some ⟨gl, 0, none⟩) 136 136) wx := fun wx => h0P wx Tryz.underlying160 c0r gl 0
 refine wp_region_still_tail 4 (by kernel_rfl) (by kernel_rfl) ?_
 simp only [List.take_succ_cons, List.take_zero, List.drop_succ_cons, List.drop_zero]
 repeat still_step
 refine wpStill_nil ?_
 show wpList _ _ _ _ _ w3.drew
 go_wp2_with fail
 have hrd : RdB w3.drew (some ⟨gl, 0, none⟩) 136 (List.replicate k 0 ++ n0o k e) := by
  have := Rd.whole hl3.drew
  rwa [a0H, List.length_append, List.length_replicate, hpl, show k + (136 - k) = 136 by omega] at this
 refine (q0m g S [.int .i64 (k : Int)] 132 _ 136 _ _ _ hS (by omega) hg3.drew hrd (fun x hx (e : x.block = g) => by simp only [Option.some.injEq] at hx; subst hx; simp at e; omega)).mono ?_
 rintro e w4 ⟨rfl, hg4, hf4, hz4⟩
 have hxb : e0Z S (List.replicate k 0 ++ n0o k e) 136 = c0j S k (n0o k e) := by
  have := i0i S k (n0o k e) []
  rwa [List.append_nil, hpl, show k + (136 - k) = 136 by omega] at this
 rw [hxb, h0c] at hg4
 have hfr4 : Fr (One g) w w4 := hfr3.drew.trans hf4 (fun _ _ t => t)
 have hend : h0S (S, k) e = b0l (c0j S k (n0o k e)) := by
  unfold h0S
  rw [g0X _ _ _ (by simp only [hpl]; omega) hk]
 have hxl : (c0j S k (n0o k e)).length = 25 := by rw [g0W, hS]
 clear hl3 hg3 hfr3 e1 hrd hf4 hz4 hxb hpl
 generalize c0j S k (n0o k e) = X at *
 have HEND := qH hend; clear hend
 go_wp2_with fail
 refine (e0H g X k _ hxl hg4).mono ?_
 rintro e w5 ⟨rfl, hg5, hf5⟩
 have hfr5 : Fr (One g) w w5 := hfr4.trans hf5 (fun _ _ t => t)
 have hS5 : (b0l X).length = 25 := by rw [f0b, hxl]
 generalize b0l X = S0 at *
 clear hg4 hfr4 hf5 hxl hS
 go_wp2_with fail
 go_loopw [8] (fun v wr => ∃ j, j ≤ e0h n ∧ Own wr w.heap.size 5 1 v (136 * j) (bs (a0I S0 j)) ∧ Has wr g (abs (b0m S0 j, k)) 132 ∧ Fr (One g) w wr) (fun v _ => n - lenV v)
 case atStart => exact ⟨0, Nat.zero_le _, by rw [k0E]; exact Own.nil _ _ _ _, by rw [o0I]; exact hg5, hfr5⟩
 case round =>
  obtain ⟨j, hj, hown, hgj, hfj⟩ := hrel
  clear hg5 hfr5
  have hjn := q0F n j
  obtain ⟨a, cap, rfl, hcap, hrdj, hna⟩ := hown.form
  by_cases hlt : 136 * j < n
  ·have hltI : 136 * (j : Int) < (n : Int) := by omega
   have hpj : (b0m S0 j).length = 25 := by rw [k0A, hS5]
   have hjp : j + 1 ≤ e0h n := hjn.1 hlt
   have HJN := qH hjn; clear hjn
   have HLT := qH hlt; clear hlt
   clear hrdj hna
   go_wp2_with fail
   rw [← h0c] at hgj
   refine (q0n g (b0m S0 j) [.int .i64 (k : Int)] 132 136 _ hpj (by omega) hgj).mono ?_
   rintro e w6 ⟨rfl, ht6, hf6, hz6⟩
   have hg6 := hgj.keep hf6 id
   rw [h0c] at hg6
   have hown6 := hown.still hf6
   have hfr6 : Fr (One g) w w6 := hfj.same hf6
   have hwb : w.heap.size ≤ wr.heap.size := hfj.size
   have hgb : g < w.heap.size := by have := HGL.out; omega
   generalize wr.heap.size = gt at *
   clear hgj hown hfj hf6
   go_wp2_with (with_reducible refine wSk 37 ?_)
   have hrd6 : Rd w6 (some ⟨gt, 0, none⟩) (136 * 1) (bs (toB (b0m S0 j) 136)) := by
    have := Rd.whole ht6
    rwa [a0H, a0X] at this
   refine b0L rfl rfl Tryz.underlying24 b0w rfl (by decide) hown6 rfl rfl hrd6 (h0W _) (by unfold maxLen; omega) (by omega) hfr6.size ?_
   intro v7 w7 hown7 hf7 hb7
   have hg7 := hg6.keep hf7 (fun hh => by have := hown6.lt hh; omega)
   have hfr7 : Fr (One g) w w7 := hown6.fr hfr6 (Nat.le_refl _) hf7
   rw [← c0A, ← f0T] at hown7
   clear ht6 hg6 hown6 hfr6 hrd6 hf7 hb7
   go_wp2_with fail
   refine (e0H g _ k _ hpj hg7).mono ?_
   rintro e w8 ⟨rfl, hg8, hf8⟩
   rw [← i0j] at hg8
   have hown8 := hown7.keep hf8 (fun k' hk' (h : k' = g) => by have := hown7.lt hk'; omega)
   have hfr8 : Fr (One g) w w8 := hfr7.trans hf8 (fun _ _ t => t)
   clear hg7 hown7 hfr7 hf8
   go_wp2_with fail
   go_roundw
   case rel => exact ⟨j + 1, hjp, hown8, hg8, hfr8⟩
   case measure =>
    obtain ⟨a8, c8, rfl, _⟩ := hown8.form
    have := HLT.out
    simp [lenV]; omega
  ·have hge : ¬ (136 * (j : Int) < (n : Int)) := by omega
   have hjp : j = e0h n := by have := hjn.2; omega
   have HJP := qH hjp; clear hjp
   have HJN := qH hjn; clear hjn
   have hnc : n ≤ cap := by omega
   have hnI : ¬ (n : Int) < 0 := by omega
   clear hgj
   go_wp2_with (with_reducible refine wSk 45 ?_)
   refine p0B rfl rfl Tryz.underlying24 c0r rfl 0 n n rfl rfl rfl rfl rfl (Nat.zero_le _) (Nat.le_refl _) hnc ?_
   go_wp2_with fail
   go_ret
   rw [l0J]
   refine ⟨_, rfl, ?_, hfj⟩
   have hsq : bs (v0X (h0S (S, k) e) n) = (bs (a0I S0 j)).take n := by
    rw [HEND.out, HJP.out, v0X, e0C]
   rw [hsq]
   exact v0Z hown n (by omega)
end
end Go.Proofs.YtemcankmggmgoaaGreatDoor
namespace Mvp
def h0g (n : Nat) : List UInt8 := [UInt8.ofNat (n / 16777216), UInt8.ofNat (n / 65536), UInt8.ofNat (n / 256), UInt8.ofNat n]
def b0k (l : List UInt8) : List UInt8 := h0g l.length ++ l
def a0G (ls : List (List UInt8)) : List UInt8 := (ls.map b0k).flatten
theorem m0f : a0G [] = [] := rfl
theorem e0y (a b : List (List UInt8)) : a0G (a ++ b) = a0G a ++ a0G b := by simp [a0G]
theorem d0Q (a : List UInt8) : a0G [a] = b0k a := by simp [a0G]
theorem k0F (a : List UInt8) (b : List (List UInt8)) : a0G (a :: b) = b0k a ++ a0G b := by simp [a0G]
end Mvp
namespace Go.Proofs.YtemcankmggmgoaaGreatDoor
section
open Go.RowKit Go.Mv Mvp
attribute [local irreducible] b0l b0B toB a0v a0I b0m c0h a0C
theorem d0D (k : Nat) : ((UInt8.ofNat k).toNat : Int) = ((k % 256 : Nat) : Int) := by simp
theorem u0P (n : Nat) (h : n ≤ 1000000) : Value.int .u8 ((n : Int) / 16777216) = .int .u8 ((UInt8.ofNat (n / 16777216)).toNat : Int) := by
 rw [d0D]; congr 1; omega
theorem u0Q (n : Nat) (h : n ≤ 1000000) : Value.int .u8 ((n : Int) / 65536) = .int .u8 ((UInt8.ofNat (n / 65536)).toNat : Int) := by
 rw [d0D]; congr 1; omega
theorem n0r (n : Nat) : Value.int .u8 ((n : Int) / 256 % 256) = .int .u8 ((UInt8.ofNat (n / 256)).toNat : Int) := by
 rw [d0D]; rfl
theorem n0s (n : Nat) : Value.int .u8 ((n : Int) % 256) = .int .u8 ((UInt8.ofNat n).toNat : Int) := by
 rw [d0D]; rfl
theorem e0o (n : Nat) : (h0g n).length = 4 := rfl
theorem k0G (g : Nat) (st : List UInt64 × Nat) (b : Option Addr) (n c : Nat) (l : List UInt8) (w : World) (hS : st.1.length = 25) (hat : st.2 < 136) (hn : n ≤ 1000000) (hnc : n ≤ c) (hg : Has w g (abs st) 132) (hb : RdB w b n l) (hbg : Off (One g) b) :
  Calls Tryz.prog 78 #[.pointer (some ⟨g, 0, none⟩), .slice b n c] w fun e w' => e = .returned (.tuple #[]) ∧ Has w' g (abs (c0i st (b0k l))) 132 ∧ Fr (One g) w w' := by
 go_enter Tryz.func78, Tryz.ntmps78
 go_wp2_with (with_reducible refine wSk 19 ?_)
 refine i0J rfl rfl Tryz.underlying24 b0w _ _ _ _ (u0P n hn) (u0Q n hn) (n0r n) (n0s n) ?_
 intro w1 hh1 hf1 hz1
 have hh1' : Has w1 w.heap.size (bs (h0g n)) 5 := hh1
 have hg1 := hg.keep hf1 id
 have hb1 := hb.still hf1
 have hgl := hg.lt
 generalize w.heap.size = g4 at *
 clear hg hb hh1
 have hrd : RdB w1 (some ⟨g4, 0, none⟩) 4 (h0g n) := by
  have := Rd.whole hh1'
  rwa [a0H, e0o] at this
 go_wp2_with fail
 refine (h0d g st _ 4 4 (h0g n) w1 hS hat (by omega) (by omega) hg1 hrd (fun x hx (e : x.block = g) => by simp only [Option.some.injEq] at hx; subst hx; simp at e; omega)).mono ?_
 rintro e w2 ⟨rfl, hg2, hf2⟩
 have hb2 := hb1.keep hf2 hbg
 have hfr2 : Fr (One g) w w2 := ((Fr.refl (One g) w).same hf1).trans hf2 (fun _ _ t => t)
 clear hf1 hz1 hh1' hg1 hb1 hrd hf2
 go_wp2_with fail
 refine (h0d g (c0i st (h0g n)) b n c l w2 (by rw [f0c, hS]) (j0j _ _ hat) hn hnc hg2 hb2 hbg).mono ?_
 rintro e w3 ⟨rfl, hg3, hf3⟩
 go_wp2_with fail
 go_end0
 rw [← c0Y, ← hb2.len] at hg3
 exact ⟨rfl, hg3, hfr2.trans hf3 (fun _ _ t => t)⟩
theorem i0l (s : ByteArray) (w : World) (hs : s.size ≤ 1000000) :
  Calls Tryz.prog 48 #[.string s] w fun r w' => r = .returned (.string (mkS (b0k s.data.toList))) ∧ Fr Nob w w' := by
 go_enter Tryz.func48, Tryz.ntmps48
 go_wp2_with (with_reducible refine wSk 17 ?_)
 refine i0J rfl rfl Tryz.underlying24 b0w _ _ _ _ (u0P s.size hs) (u0Q s.size hs) (n0r s.size) (n0s s.size) ?_
 intro w1 hh1 hf1 hz1
 have hrd : RdB w1 (some ⟨w.heap.size, 0, none⟩) 4 (h0g s.size) := Rd.whole hh1
 have e1 := b0J hrd 4 Tryz.underlying24 Tryz.underlying5 Tryz.underlying9
 have hcat : ¬ 9223372036854775807 < (mkS (h0g s.size)).size + s.size := by rw [a0w, e0o]; omega
 go_wp2_with fail
 go_ret
 refine ⟨?_, hf1⟩
 have : mkS (h0g s.size) ++ s = mkS (b0k s.data.toList) := by
  rw [b0k, ← f0A, f0X]; rfl
 exact congrArg (fun q => Ending.returned (.string q)) this
end
section
open Go.RowKit Go.Mv Mvp
attribute [local irreducible] b0l b0B toB a0v a0I b0m
theorem k0H : Tryz.prog.built 132 [] = some (abs (a0z, 0)).toArray := by unfold abs; kernel_rfl
theorem w0b (l : List UInt8) : (c0i (a0z, 0) l).1.length = 25 ∧ (c0i (a0z, 0) l).2 < 136 := ⟨by rw [f0c]; rfl, j0j _ _ (by decide)⟩
theorem o0J (b : Option Addr) (n c : Nat) (l : List UInt8) (m : Nat) (w : World) (hm : m ≤ 20000) (hn : n ≤ 1000000) (hnc : n ≤ c) (hb : RdB w b n l) (ho : Old w b) :
  Calls Tryz.prog 52 #[.slice b n c, .int .i64 (m : Int)] w fun r w' => ∃ v, r = .returned v ∧ Own w' w.heap.size 5 1 v m (bs (a0C l 31 m)) ∧ Fr Nob w w' := by
 go_enter Tryz.func52, Tryz.ntmps52
 go_wp2_with (with_reducible refine wSk 6 ?_)
 refine c0c rfl rfl _ k0H ?_
 refine p0C rfl rfl rfl (abs (a0z, 0)) rfl ?_
 intro w1 hg1 hf1 hz1
 have hb1 := hb.still hf1
 have hoff : Off (One w.heap.size) b := ho.off (Nat.le_refl _)
 generalize hgw : w.heap.size = g at *
 have HG := qH hgw; clear hgw
 clear hb ho
 go_wp2_with fail
 refine (h0d g (a0z, 0) b n c l w1 rfl (by decide) hn hnc hg1 hb1 hoff).mono ?_
 rintro e w2 ⟨rfl, hg2, hf2⟩
 obtain ⟨h1, h2⟩ := w0b l
 have hfr2 : Fr Nob w w2 := hf1.new hf2 (by rw [HG.out]; exact Nat.le_refl _)
 generalize hst : c0i (a0z, 0) l = st at *
 have HST := qH hst; clear hst
 clear hg1 hf1 hz1 hb1 hf2
 go_wp2_with fail
 refine (q0G g st.1 st.2 31 m w2 h1 h2 hm hg2).mono ?_
 rintro e w3 ⟨v, rfl, hown, hf3⟩
 go_wp2_with fail
 go_ret
 refine ⟨v, rfl, ?_, hfr2.new hf3 (by rw [HG.out]; exact Nat.le_refl _)⟩
 have := hown.mono (base' := g) (by have := hg2.lt; omega)
 rw [← HST.out] at this
 rw [HG.out]
 exact this
theorem o0K (b : Option Addr) (n c : Nat) (l : List UInt8) (m : Int) (w : World) (hn : n ≤ 1000000) (hnc : n ≤ c) (hb : RdB w b n l) (ho : Old w b) :
  Calls Tryz.prog 23 #[.slice b n c, .int .i64 m] w fun r w' => (0 ≤ m ∧ m ≤ 16384 ∧ ∃ v, r = .returned (.tuple #[v, .int .i64 0]) ∧ Own w' w.heap.size 5 1 v m.toNat (bs (a0C l 31 m.toNat)) ∧ Fr Nob w w') ∨ (¬ (0 ≤ m ∧ m ≤ 16384) ∧ r = .returned (.tuple #[.slice none 0 0, .int .i64 1]) ∧ Fr Nob w w') := by
 go_enter Tryz.func23, Tryz.ntmps23
 by_cases h0 : m < 0
 ·go_wp2_with fail
  go_ret2
  exact .inr ⟨by omega, rfl, Fr.refl _ _⟩
 ·by_cases h1 : 16384 < m
  ·go_wp2_with fail
   go_ret2
   first | exact .inr ⟨by omega, rfl, Fr.refl _ _⟩ | exact .inr ⟨rfl, Fr.refl _ _⟩ | exact .inr (Fr.refl _ _) | exact ⟨rfl, Fr.refl _ _⟩ | exact Fr.refl _ _
  ·obtain ⟨k, rfl⟩ : ∃ k : Nat, m = k := ⟨m.toNat, by omega⟩
   go_wp2_with fail
   refine (o0J b n c l k w (by omega) hn hnc hb ho).mono ?_
   rintro e w3 ⟨v, rfl, hown, hf3⟩
   go_wp2_with fail
   go_ret2
   exact .inl ⟨by omega, by omega, v, rfl, by simpa using hown, hf3⟩
end
section
open Go.RowKit Go.Mv Mvp
attribute [local irreducible] b0l b0B toB a0v a0I b0m c0h a0C
def PartIs (w : World) (v : Value) (l : List UInt8) : Prop := ∃ a n c, v = .slice a n c ∧ n ≤ c ∧ n ≤ 1000000 ∧ RdB w a n l ∧ Old w a
theorem PartIs.still {w w' : World} {v : Value} {l : List UInt8} (h : PartIs w v l) (hf : Fr Nob w w') : PartIs w' v l := by
 obtain ⟨a, n, c, h1, h2, h3, h4, h5⟩ := h
 exact ⟨a, n, c, h1, h2, h3, h4.still hf, h5.grow hf.size⟩
def PartsAt (w : World) (a : Option Addr) (ls : List (List UInt8)) : Prop := ∃ vs : List Value, Rd w a ls.length vs ∧ ∀ (i : Nat) (v : Value), vs[i]? = some v → ∃ l : List UInt8, ls[i]? = some l ∧ PartIs w v l
theorem PartsAt.get {w : World} {a : Option Addr} {ls : List (List UInt8)} (h : PartsAt w a ls) {j : Nat} (hj : j < ls.length) : ∃ b o v, a = some ⟨b, o, none⟩ ∧ w.cell? ⟨b, o + j, none⟩ = some v ∧ PartIs w v (ls.getD j []) := by
 obtain ⟨vs, hr, hv⟩ := h
 obtain ⟨b, o, rfl, hat⟩ := hr.at (by omega)
 have hl := hr.len
 obtain ⟨l, h1, h2⟩ := hv j (vs[j]'(by omega)) (List.getElem?_eq_getElem (by omega))
 refine ⟨b, o, vs[j]'(by omega), rfl, hat j _ (List.getElem?_eq_getElem (by omega)), ?_⟩
 rwa [List.getD_eq_getElem?_getD, h1]
theorem PartsAt.still {w w' : World} {a : Option Addr} {ls : List (List UInt8)} (h : PartsAt w a ls) (hf : Fr Nob w w') : PartsAt w' a ls := by
 obtain ⟨vs, hr, hv⟩ := h
 refine ⟨vs, hr.still hf, fun i v hi => ?_⟩
 obtain ⟨l, h1, h2⟩ := hv i v hi
 exact ⟨l, h1, h2.still hf⟩
def h0h (s : List UInt8) (ls : List (List UInt8)) : List UInt8 := a0G (s :: ls)
def c0S (s : List UInt8) (ls : List (List UInt8)) : List UInt8 := a0C (h0h s ls) 6 32
theorem z25 : ((a0z, 0) : List UInt64 × Nat).1.length = 25 := rfl
attribute [local irreducible] c0i b0k a0G abs a0z
theorem w0c (s : ByteArray) (a : Option Addr) (c : Nat) (ls : List (List UInt8)) (w : World) (hs : s.size ≤ 1000000) (hm : ls.length ≤ 1000000) (hb : PartsAt w a ls) :
  Calls Tryz.prog 40 #[.string s, .slice a ls.length c] w fun r w' => ∃ v, r = .returned v ∧ Own w' w.heap.size 5 1 v 32 (bs (c0S s.data.toList ls)) ∧ Fr Nob w w' := by
 go_enter Tryz.func40, Tryz.ntmps40
 go_wp2_with (with_reducible refine wSk 8 ?_)
 refine c0c rfl rfl _ k0H ?_
 refine p0C rfl rfl rfl (abs (a0z, 0)) rfl ?_
 intro w1 hg1 hf1 hz1
 clear hz1
 have hst1 := z25
 have hst2 : ((a0z, 0) : List UInt64 × Nat).2 < 136 := Nat.zero_lt_succ _
 obtain ⟨st0, hst0⟩ : ∃ st0 : List UInt64 × Nat, st0 = (a0z, 0) := ⟨_, rfl⟩
 rw [← hst0] at hg1 hst1 hst2
 have HST0 := qH hst0; clear hst0
 generalize hgw : w.heap.size = g at *
 have HG := qH hgw; clear hgw
 go_wp2_with (with_reducible refine wSk 12 ?_)
 refine d0e rfl rfl Tryz.underlying9 Tryz.underlying24 Tryz.underlying5 rfl (by unfold maxLen; omega) w1.heap.size (Nat.le_refl _) ?_
 intro cap w2 hown2 hf2 hz2
 have hg2 := hg1.keep hf2 id
 have hfr2 := hf1.then hf2
 have hgl := hg1.lt
 obtain ⟨a2, c2, hv2, hc2, hrd2, -⟩ := hown2.form
 cases hv2
 rw [Nat.mul_one] at hrd2
 go_wp2_with fail
 have hoff0 : Off (One g) (some (⟨w1.heap.size, 0, none⟩ : Addr)) := fun x hx (e : x.block = g) => by
  cases hx
  exact absurd e (by show ¬ (w1.heap.size = g); omega)
 have hcall := k0G g st0 (some ⟨w1.heap.size, 0, none⟩) s.size cap s.data.toList w2 hst1 hst2 hs hc2 hg2 hrd2 hoff0
 refine hcall.mono ?_
 rintro e w3 ⟨rfl, hg3, hf3⟩
 have hfr3 : Fr Nob w w3 := hfr2.new hf3 (by rw [HG.out]; exact Nat.le_refl _)
 clear hg1 hf1 hown2 hf2 hz2 hg2 hfr2 hrd2 hf3 hgl
 go_wp2_with fail
 go_loopw [16] (fun i wr => ∃ j : Nat, j ≤ ls.length ∧ i = .int .i64 (j : Int) ∧ Has wr g (abs (c0i st0 (a0G (s.data.toList :: ls.take j)))) 132 ∧ Fr Nob w wr) (fun i _ => (ls.length - intOf i).toNat)
 case atStart => exact ⟨0, by omega, rfl, by rw [List.take_zero, d0Q]; exact hg3, hfr3⟩
 case round =>
  obtain ⟨j, hj, rfl, hgj, hfj⟩ := hrel
  clear hg3 hfr3
  by_cases hlt : j < ls.length
  ·have hltI : (j : Int) < (ls.length : Int) := by omega
   obtain ⟨b, o, v, rfl, hc, hp⟩ := (hb.still hfj).get hlt
   obtain ⟨b', o', v', hv', hc', hp'⟩ := hb.get hlt
   simp only [Option.some.injEq, Addr.mk.injEq] at hv'
   obtain ⟨rfl, rfl, -⟩ := hv'
   have hvv : v = v' := by
    have := hfj.cell id hc'
    rw [hc] at this; simpa using this
   subst hvv
   obtain ⟨ap, np, cp, rfl, hp1, hp2, hp3, hp4⟩ := hp'
   have hr3 := hp3.still hfj
   clear hp
   have hoff : Off (One g) ap := hp4.off (by rw [HG.out]; exact Nat.le_refl _)
   go_wp2_with fail
   have hSj : (c0i st0 (a0G (s.data.toList :: ls.take j))).1.length = 25 := by rw [f0c, hst1]
   have hkj := j0j (a0G (s.data.toList :: ls.take j)) st0 hst2
   refine (k0G g (c0i st0 (a0G (s.data.toList :: ls.take j))) ap np cp (ls.getD j []) wr hSj hkj hp2 hp1 hgj hr3 hoff).mono ?_
   rintro e w4 ⟨rfl, hg4, hf4⟩
   have hfr4 : Fr Nob w w4 := hfj.new hf4 (by rw [HG.out]; exact Nat.le_refl _)
   rw [← c0Y] at hg4
   have hfl : a0G (s.data.toList :: ls.take j) ++ b0k (ls.getD j []) = a0G (s.data.toList :: ls.take (j + 1)) := by
    rw [List.take_succ_eq_append_getElem hlt, ← List.cons_append, e0y, d0Q, List.getD_eq_getElem?_getD, List.getElem?_eq_getElem hlt]; rfl
   rw [hfl] at hg4
   clear hSj hkj hr3 hgj hfj hf4 hfl
   go_wp2_with fail
   go_roundw
   case rel => exact ⟨j + 1, by omega, by go_num, hg4, hfr4⟩
   case measure => simp [intOf]; omega
  ·have hge : ¬ ((j : Int) < (ls.length : Int)) := by omega
   have hjn : j = ls.length := by omega
   have hSj : (c0i st0 (a0G (s.data.toList :: ls.take j))).1.length = 25 := by rw [f0c, hst1]
   have hkj := j0j (a0G (s.data.toList :: ls.take j)) st0 hst2
   have hft : a0G (s.data.toList :: ls.take j) = h0h s.data.toList ls := by rw [hjn, List.take_length]; rfl
   rw [hft] at hgj hSj hkj
   generalize hst : c0i st0 (h0h s.data.toList ls) = st at *
   have HST := qH hst; clear hst
   have HJN := qH hjn; clear hjn
   clear hft
   go_wp2_with fail
   refine (q0G g st.1 st.2 6 32 wr hSj hkj (by omega) hgj).mono ?_
   rintro e w4 ⟨v, rfl, hown, hf4⟩
   go_wp2_with fail
   go_ret
   refine ⟨v, rfl, ?_, hfj.new hf4 (by rw [HG.out]; exact Nat.le_refl _)⟩
   have := hown.mono (base' := g) (by have := hgj.lt; omega)
   rw [HG.out]
   unfold c0S a0C
   rw [← HST0.out, HST.out]
   exact this
theorem q0H (s : ByteArray) (a : Option Addr) (c : Nat) (ls : List (List UInt8)) (w : World) (hs : s.size ≤ 1000000) (hm : ls.length ≤ 1000000) (hb : PartsAt w a ls) :
  Calls Tryz.prog 17 #[.string s, .slice a ls.length c] w fun r w' => ∃ v, r = .returned v ∧ Own w' w.heap.size 5 1 v 32 (bs (c0S s.data.toList ls)) ∧ Fr Nob w w' := by
 go_enter Tryz.func17, Tryz.ntmps17
 go_wp2_with fail
 refine (w0c s a c ls w hs hm hb).mono ?_
 rintro e w4 ⟨v, rfl, hown, hf4⟩
 go_wp2_with fail
 go_ret
 exact ⟨v, rfl, hown, hf4⟩
end
section
open Go.RowKit Go.Mv Mvp
end
section
open Go.RowKit Go.Mv Mvp
attribute [local irreducible] b0l b0B toB a0v a0I b0m c0h a0C
theorem q0I (s : ByteArray) (w : World) (hs : s.size ≤ 1000000) :
  Calls Tryz.prog 49 #[.string s] w fun r w' => r = .returned (.string (mkS (a0C s.data.toList 6 32))) ∧ Fr Nob w w' := by
 go_enter Tryz.func49, Tryz.ntmps49
 go_wp2_with fail
 refine (h0f s 6 32 w hs (by omega)).mono ?_
 rintro e w3 ⟨rfl, hf3⟩
 go_wp2_with fail
 go_ret
 exact ⟨rfl, hf3⟩
theorem h0i (s : ByteArray) (n : Nat) (w : World) (hs : s.size ≤ 1000000) (hn : n ≤ 20000) :
  Calls Tryz.prog 31 #[.string s, .int .i64 (n : Int)] w fun r w' => r = .returned (.string (mkS (a0C s.data.toList 31 n))) ∧ Fr Nob w w' := by
 go_enter Tryz.func31, Tryz.ntmps31
 go_wp2_with fail
 refine (h0f s 31 n w hs hn).mono ?_
 rintro e w3 ⟨rfl, hf3⟩
 go_wp2_with fail
 go_ret
 exact ⟨rfl, hf3⟩
theorem e0z {w : World} {base : Nat} {T : TypeId} {v : Value} {n : Nat} {l : List UInt8} (h : Own w base T 1 v n (bs l)) : ∃ a c, v = .slice a n c ∧ RdB w a n l := by
 obtain ⟨a, c, hv, _, hr, _⟩ := h.form
 rw [Nat.mul_one] at hr
 exact ⟨a, c, hv, hr⟩
end
end Go.Proofs.YtemcankmggmgoaaGreatDoor
namespace Go.Mv
open Go.RowKit Go.ChangeShapes Go.WideShapes
def ss (l : List (List UInt8)) : List Value := l.map fun x => .string (mkS x)
theorem x0S (l : List (List UInt8)) : (ss l).length = l.length := by simp [ss]
theorem u0R (l : List (List UInt8)) (i : Nat) (hi : i < l.length) : (ss l)[i]? = some (.string (mkS (l.getD i []))) := by
 simp [ss, List.getD_eq_getElem?_getD, hi]
section
variable {H : Type} {enc : TypeId × Value → H} {P : Program} {w : World} {base : Nat} {held : Bool} {spare : Nat → Bool}
theorem k0I {ts : List TypeId} {ds : List (DataW H)} (h : (DataW.weightsEach P ts ds).all (· ≤ reachBytes) = true) {j : Nat} {t : TypeId} {s : ByteArray} (ht : ts[j]? = some t) (hd : ds[j]? = some (.lit (.string s.data.toList))) : s.size ≤ 140737488351232 := by
 have := sized_string h ht hd
 have e : s.data.toList.length = s.size := by simp
 have hr : reachBytes = 140737488351232 := rfl
 omega
end
end Go.Mv
namespace Go.Proofs.YtemcankmggmgoaaGreatDoor
section
open Go.RowKit Go.Mv Mvp
attribute [local irreducible] b0l b0B toB a0v a0I b0m c0h a0C c0i b0k a0G
theorem i0m (l : List UInt8) : (b0k l).length = 4 + l.length := by unfold b0k; simp [e0o]
def h0j (ls : List (List UInt8)) : Nat := (ls.map List.length).foldr (· + ·) 0
theorem h0k (a b : List (List UInt8)) : h0j (a ++ b) = h0j a + h0j b := by
 induction a with
 | nil => simp [h0j]
 | cons x a ih => simp only [h0j, List.cons_append, List.map_cons, List.foldr_cons] at *; omega
theorem m0g (ls : List (List UInt8)) : (a0G ls).length = 4 * ls.length + h0j ls := by
 induction ls with
 | nil => rw [m0f]; rfl
 | cons a b ih => rw [k0F, List.length_append, i0m, ih, List.length_cons]; simp only [h0j, List.map_cons, List.foldr_cons]; omega
theorem q0J (ls : List (List UInt8)) (j : Nat) : h0j (ls.take j) ≤ h0j ls := by
 have := h0k (ls.take j) (ls.drop j)
 rw [List.take_append_drop] at this; omega
theorem t0h (ls : List (List UInt8)) (j : Nat) (hj : j < ls.length) : (ls.getD j []).length ≤ h0j ls := by
 have h1 := h0k (ls.take j) (ls.drop j)
 rw [List.take_append_drop, List.drop_eq_getElem_cons hj] at h1
 have h2 : h0j (ls[j] :: ls.drop (j + 1)) = ls[j].length + h0j (ls.drop (j + 1)) := by simp only [h0j, List.map_cons, List.foldr_cons]
 have h3 : ls.getD j [] = ls[j] := by simp [List.getD_eq_getElem?_getD, hj]
 rw [h3]; omega
theorem n0t (s : ByteArray) (a : Option Addr) (c : Nat) (ls : List (List UInt8)) (w : World) (hs : s.size + h0j ls ≤ 100000) (hm : ls.length ≤ 1000) (hb : Rd w a ls.length (ss ls)) :
  Calls Tryz.prog 21 #[.string s, .slice a ls.length c] w fun r w' => r = .returned (.string (mkS (c0S s.data.toList ls))) ∧ Fr Nob w w' := by
 go_enter Tryz.func21, Tryz.ntmps21
 go_wp2_with fail
 refine (i0l s w (by omega)).mono ?_
 rintro e w1 ⟨rfl, hf1⟩
 have hsl : s.data.toList.length = s.size := p0U s
 go_wp2_with fail
 go_loopw [6, 5] (fun i q wr => ∃ j : Nat, j ≤ ls.length ∧ i = .int .i64 (j : Int) ∧ q = .string (mkS (a0G (s.data.toList :: ls.take j))) ∧ Fr Nob w wr) (fun i _ _ => (ls.length - intOf i).toNat)
 case atStart => exact ⟨0, by omega, rfl, by rw [List.take_zero, d0Q], hf1⟩
 case round =>
  obtain ⟨j, hj, rfl, rfl, hfj⟩ := hrel
  clear hf1
  have hql : (mkS (a0G (s.data.toList :: ls.take j))).size ≤ 200000 := by
   rw [a0w, m0g]
   have h1 := q0J ls j
   have h2 : h0j (s.data.toList :: ls.take j) = s.data.toList.length + h0j (ls.take j) := by simp [h0j]
   rw [h2, List.length_cons, List.length_take]; omega
  by_cases hlt : j < ls.length
  ·have hltI : (j : Int) < (ls.length : Int) := by omega
   obtain ⟨b, o, rfl, hat⟩ := (hb.still hfj).at (by omega)
   have hc : wr.cell? ⟨b, o + j, none⟩ = some (.string (mkS (ls.getD j []))) := hat j _ (u0R ls j hlt)
   have hxl := t0h ls j hlt
   have hfl : a0G (s.data.toList :: ls.take j) ++ b0k (ls.getD j []) = a0G (s.data.toList :: ls.take (j + 1)) := by
    rw [List.take_succ_eq_append_getElem hlt, ← List.cons_append, e0y, d0Q, List.getD_eq_getElem?_getD, List.getElem?_eq_getElem hlt]; rfl
   have hcat : ¬ 9223372036854775807 < (mkS (a0G (s.data.toList :: ls.take j))).size + (mkS (b0k (ls.getD j []))).size := by
    rw [a0w (b0k _), i0m]; omega
   generalize hx : ls.getD j [] = x at *
   have HX := qH hx; clear hx
   have hfl2 := hfl
   have HFL := qH hfl2; clear hfl hfl2
   generalize hq : mkS (a0G (s.data.toList :: ls.take j)) = q at *
   have HQ := qH hq; clear hq
   have HQL := qH hql; clear hql
   have HSL := qH hsl; clear hsl
   clear hat
   go_wp2_with fail
   refine (i0l (mkS x) wr (by rw [a0w]; omega)).mono ?_
   rintro e w4 ⟨rfl, hf4⟩
   rw [b0b]
   have hfr4 := hfj.then hf4
   clear hfj hf4
   go_wp2_with fail
   go_roundw
   case rel => exact ⟨j + 1, by omega, by go_num, by rw [← HQ.out, f0A, HFL.out], hfr4⟩
   case measure => simp [intOf]; omega
  ·have hge : ¬ ((j : Int) < (ls.length : Int)) := by omega
   have hjn : j = ls.length := by omega
   have hft : a0G (s.data.toList :: ls.take j) = h0h s.data.toList ls := by rw [hjn, List.take_length]; rfl
   rw [hft] at hql ⊢
   have HJN := qH hjn; clear hjn
   clear hft
   go_wp2_with fail
   refine (q0I (mkS (h0h s.data.toList ls)) wr (by omega)).mono ?_
   rintro e w4 ⟨rfl, hf4⟩
   rw [b0b]
   go_wp2_with fail
   go_ret
   exact ⟨rfl, hfj.then hf4⟩
end
section
open Go.RowKit Go.Mv Mvp
attribute [local irreducible] b0l b0B toB a0v a0I b0m c0h a0C c0i b0k a0G c0S
theorem j0n : (Tryz.prog.info? 24).map (fun i => (i.zero, i.size, i.bytes)) = some (some (.slice none 0 0), 1, 24) := by kernel_rfl
theorem n0u : (Tryz.prog.info? 9).map (fun i => (i.zero, i.size, i.bytes)) = some (some (.string ByteArray.empty), 1, 16) := by kernel_rfl
def Parts (w : World) : List Value → List (List UInt8) → Prop
 | [], [] => True
 | v :: vs, l :: ls => PartIs w v l ∧ Parts w vs ls
 | _, _ => False
theorem Parts.len {w : World} : ∀ {vs : List Value} {ls : List (List UInt8)}, Parts w vs ls → vs.length = ls.length
 | [], [], _ => rfl
 | _ :: _, _ :: _, h => by simp only [List.length_cons]; rw [Parts.len h.2]
 | [], _ :: _, h => h.elim
 | _ :: _, [], h => h.elim
theorem Parts.get {w : World} : ∀ {vs : List Value} {ls : List (List UInt8)}, Parts w vs ls → ∀ (i : Nat) (v : Value), vs[i]? = some v → ∃ l : List UInt8, ls[i]? = some l ∧ PartIs w v l
 | [], [], _, i, v, h => by simp at h
 | x :: vs, l :: ls, h, 0, v, hv => by simp only [List.getElem?_cons_zero, Option.some.injEq] at hv; subst hv; exact ⟨l, rfl, h.1⟩
 | x :: vs, l :: ls, h, i + 1, v, hv => by simp only [List.getElem?_cons_succ] at hv ⊢; exact Parts.get h.2 i v hv
 | [], _ :: _, h, _, _, _ => h.elim
 | _ :: _, [], h, _, _, _ => h.elim
theorem Parts.at {w : World} {g : Nat} {T : TypeId} {vs : List Value} {ls : List (List UInt8)} (h : Parts w vs ls) (hg : Has w g vs T) : PartsAt w (some ⟨g, 0, none⟩) ls :=
 ⟨vs, by have := Rd.whole hg; rwa [h.len] at this, h.get⟩
theorem Parts.cells {w : World} : ∀ {vs : List Value} {ls : List (List UInt8)}, Parts w vs ls → ∀ v ∈ vs, v.cells = #[v]
 | [], _, _, v, h => by simp at h
 | x :: vs, l :: ls, h, v, hv => by
  rcases List.mem_cons.1 hv with rfl | hv
  ·obtain ⟨a, n, c, rfl, _⟩ := h.1; rfl
  ·exact Parts.cells h.2 v hv
 | _ :: _, [], h, _, _ => h.elim
theorem c0y {w : World} {base n : Nat} {T : TypeId} {v : Value} {l : List UInt8} (h : Own w base T 1 v n (bs l)) (hn : n ≤ 1000000) : PartIs w v l := by
 have h0 := h
 obtain ⟨a, c, rfl, hc, hr, -⟩ := h.form
 rw [Nat.mul_one] at hr
 refine ⟨a, n, c, rfl, hc, hn, hr, ?_⟩
 intro x hx
 exact (h0.lt (by rw [hx]; rfl)).2
theorem f0f (k : List UInt8) (ls : List (List UInt8)) : (c0S k ls).length = 32 := by unfold c0S; exact g0Y _ _ _
theorem q0K (k : List UInt8) (g c : Nat) (ls : List (List UInt8)) (w : World) (hh : Has w g (ss ls) 9) (hs : k.length + h0j ls ≤ 100000) (hm : ls.length ≤ 1000) :
  Calls Tryz.prog 21 #[.string (mkS k), .slice (some ⟨g, 0, none⟩) ls.length c] w fun r w' => r = .returned (.string (mkS (c0S k ls))) ∧ Fr Nob w w' := by
 have hr := Rd.whole hh
 rw [x0S] at hr
 have := n0t (mkS k) (some ⟨g, 0, none⟩) c ls w (by rw [a0w]; exact hs) hm hr
 rwa [b0b] at this
end
end Go.Proofs.YtemcankmggmgoaaGreatDoor
namespace Mvt
variable {α : Type} (nd : α → α → α)
def half (n : Nat) : Nat := 2 ^ Nat.log2 (n - 1)
def skip (a e : Nat) : Nat × Nat := if a % 2 = 0 ∧ 0 < a then skip (a / 2) (e / 2) else (a, e)
termination_by a
decreasing_by omega
end Mvt
namespace Go.Proofs.YtemcankmggmgoaaGreatDoor
open Go.RowKit Go.Mv Mvp Mvt
attribute [local irreducible] b0l b0B toB a0v a0I b0m c0h a0C c0i b0k a0G c0S
theorem u0S (k : List UInt8) (hk : k.length ≤ 100) (g c : Nat) (vs : List Value) (ls : List (List UInt8)) (w : World) (hh : Has w g vs 24) (hp : Parts w vs ls) (hm : ls.length ≤ 1000000) :
  Calls Tryz.prog 17 #[.string (mkS k), .slice (some ⟨g, 0, none⟩) ls.length c] w fun r w' => ∃ v, r = .returned v ∧ Own w' w.heap.size 5 1 v 32 (bs (c0S k ls)) ∧ Fr Nob w w' := by
 have := q0H (mkS k) (some ⟨g, 0, none⟩) c ls w (by rw [a0w]; omega) hm (hp.at hh)
 rwa [b0b] at this
end Go.Proofs.YtemcankmggmgoaaGreatDoor
namespace Mvp
def h0l : List UInt8 := [99, 104, 105, 108, 100]
def h0N : List UInt8 := [107, 101, 121]
end Mvp
namespace Go.Mv
open Mvp
def o0L (l : List Nat) : List Go.Value := l.map fun (x : Nat) => .int .u32 ((x : Nat) : Int)
theorem i0n {w : World} {b o n : Nat} {vs : List Go.Value} (h : Rd w (some ⟨b, o, none⟩) n vs) (i : Nat) (v : Go.Value) (hv : vs[i]? = some v) : w.cell? ⟨b, o + i, none⟩ = some v := by
 rcases h.2 with h0 | ⟨b', o', he, hc⟩
 ·have hl := h.len
  rw [h0] at hl
  rw [List.length_eq_zero_iff.1 hl] at hv; simp at hv
 ·simp only [Option.some.injEq, Addr.mk.injEq] at he
  obtain ⟨rfl, rfl, -⟩ := he
  exact hc i v hv
end Go.Mv
namespace Go.Proofs.YtemcankmggmgoaaGreatDoor
open Go.RowKit Go.Mv Mvp Mvt
attribute [local irreducible] b0l b0B toB a0v a0I b0m c0h a0C c0i b0k a0G c0S
theorem k0J : (⟨#[99, 104, 105, 108, 100]⟩ : ByteArray) = mkS h0l := rfl
theorem q0L : (⟨#[107, 101, 121]⟩ : ByteArray) = mkS h0N := rfl
theorem q0M (n : Nat) (h : n < 4294967296) : Value.int .u8 ((n : Int) / 16777216) = .int .u8 ((UInt8.ofNat (n / 16777216)).toNat : Int) := by
 rw [d0D]; congr 1; omega
theorem q0N (n : Nat) : Value.int .u8 ((n : Int) / 65536 % 256) = .int .u8 ((UInt8.ofNat (n / 65536)).toNat : Int) := by
 rw [d0D]; rfl
theorem i0o {w : World} {v : Value} {l : List UInt8} (h : PartIs w v l) : v.cells = #[v] := by
 obtain ⟨a, n, c, rfl, -⟩ := h; rfl
theorem q0O (n : Nat) (hn : n < 4294967296) (v : Value) (l : List UInt8) (w : World) (hp : PartIs w v l) :
  Calls Tryz.prog 50 #[v, .int .u32 (n : Int)] w fun e w' => ∃ v, e = .returned v ∧ Own w' w.heap.size 5 1 v 32 (bs (c0S h0l [l, h0g n])) ∧ Fr Nob w w' := by
 have HP := qH hp
 have HC := qH (i0o hp)
 clear hp
 go_enter Tryz.func50, Tryz.ntmps50
 go_wp2_with (with_reducible refine wSk 17 ?_)
 refine i0J rfl rfl Tryz.underlying24 b0w _ _ _ _ (q0M n hn) (q0N n) (n0r n) (n0s n) ?_
 intro w1 hh1 hf1 hz1
 have hh1' : Has w1 w.heap.size (bs (h0g n)) 5 := hh1
 have hp1 : PartIs w1 (.slice (some ⟨w.heap.size, 0, none⟩) 4 4) (h0g n) := by
  refine ⟨_, 4, 4, rfl, by omega, by omega, ?_, fun a ha => ?_⟩
  ·have := Rd.whole hh1'
   rwa [a0H, e0o] at this
  ·simp only [Option.some.injEq] at ha; subst ha; show w.heap.size < _; omega
 have HP1 := qH hp1
 have HF1 := qH hf1
 clear hh1 hh1' hz1 hp1 hf1
 generalize w.heap.size = g4 at *
 go_wp2_with (with_reducible refine wSk 18 ?_)
 refine c0e (vs := [v, .slice (some ⟨g4, 0, none⟩) 4 4]) (hgd := rfl) (ho := rfl) (hu := Tryz.underlying33) (hi0 := j0n) (hp := by rfl) (hv := fun u hu => by
  simp only [List.mem_cons, List.not_mem_nil, or_false] at hu
  rcases hu with rfl | rfl
  ·exact HC.out
  ·rfl) (hk := by rfl) (hz := by rfl) (h := ?_)
 intro w2 hh2 hf2 hz2
 clear hz2
 have HF2 := qH (HF1.out.then hf2)
 have hps : Parts w2 [v, .slice (some ⟨g4, 0, none⟩) 4 4] [l, h0g n] := ⟨HP.out.still HF2.out, HP1.out.still hf2, trivial⟩
 have HPS := qH hps
 have HH2 := qH hh2
 clear hf2 hps hh2 HP1 HF1
 generalize w1.heap.size = g5 at *
 rw [k0J]
 go_wp2_with fail
 refine (u0S h0l (by decide) _ _ _ _ w2 HH2.out HPS.out (by simp)).mono ?_
 rintro e w3 ⟨v3, rfl, hown3, hf3⟩
 obtain ⟨a3, c3, rfl, -⟩ := e0z hown3
 have HO := qH (hown3.mono HF2.out.size)
 have HF3 := qH (HF2.out.then hf3)
 clear hown3 hf3
 go_wp2_with fail
 go_ret
 exact ⟨_, rfl, HO.out, HF3.out⟩
theorem w0d (s : ByteArray) (hs : s.size ≤ 1000000) (v : Value) (l : List UInt8) (w : World) (hp : PartIs w v l) :
  Calls Tryz.prog 51 #[v, .string s] w fun e w' => ∃ v, e = .returned v ∧ Own w' w.heap.size 5 1 v 32 (bs (c0S h0N [l, s.data.toList])) ∧ Fr Nob w w' := by
 have HP := qH hp
 have HC := qH (i0o hp)
 have HS := qH hs
 clear hp hs
 go_enter Tryz.func51, Tryz.ntmps51
 go_wp2_with (with_reducible refine wSk 7 ?_)
 refine d0e (q := s) rfl rfl Tryz.underlying9 Tryz.underlying24 Tryz.underlying5 rfl (by have := HS.out; unfold maxLen; omega) w.heap.size (Nat.le_refl _) ?_
 intro cap w1 hown1 hf1 hz1
 have HP1 := qH (c0y hown1 (by have := HS.out; simpa using this))
 have HF1 := qH hf1
 clear hown1 hz1 hf1
 generalize w.heap.size = g4 at *
 go_wp2_with (with_reducible refine wSk 8 ?_)
 refine c0e (vs := [v, .slice (some ⟨g4, 0, none⟩) s.size cap]) (hgd := rfl) (ho := rfl) (hu := Tryz.underlying33) (hi0 := j0n) (hp := by rfl) (hv := fun u hu => by
  simp only [List.mem_cons, List.not_mem_nil, or_false] at hu
  rcases hu with rfl | rfl
  ·exact HC.out
  ·rfl) (hk := by rfl) (hz := by rfl) (h := ?_)
 intro w2 hh2 hf2 hz2
 clear hz2
 have HF2 := qH (HF1.out.then hf2)
 have hps : Parts w2 [v, .slice (some ⟨g4, 0, none⟩) s.size cap] [l, s.data.toList] := ⟨HP.out.still HF2.out, HP1.out.still hf2, trivial⟩
 have HPS := qH hps
 have HH2 := qH hh2
 clear hf2 hps hh2 HP1 HF1
 generalize w1.heap.size = g5 at *
 rw [q0L]
 go_wp2_with fail
 refine (u0S h0N (by decide) _ _ _ _ w2 HH2.out HPS.out (by simp)).mono ?_
 rintro e w3 ⟨v3, rfl, hown3, hf3⟩
 obtain ⟨a3, c3, rfl, -⟩ := e0z hown3
 have HO := qH (hown3.mono HF2.out.size)
 have HF3 := qH (HF2.out.then hf3)
 clear hown3 hf3
 go_wp2_with fail
 go_ret
 exact ⟨_, rfl, HO.out, HF3.out⟩
end Go.Proofs.YtemcankmggmgoaaGreatDoor
