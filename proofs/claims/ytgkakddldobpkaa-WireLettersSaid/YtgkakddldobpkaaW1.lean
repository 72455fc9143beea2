/- word functions of the sponge -/
import Derived.Test.YtgkakddldobpkaaStill
import Derived.Test.YtgkakddldobpkaaBits
import Derived.Test.YtgkakddldobpkaaSpg
namespace Go.Proofs.Ytgkakddldobpkaa
open Go.RowKit Go.Mv Mvp

theorem ret_int {k : IntKind} {a b : Int} (h : a = b) : Ending.returned (.int k a) = .returned (.int k b) := by rw [h]

theorem rot_form (x : UInt64) (k : Nat) (hk : k < 64) : wo (shl x (k % 64)) (shr x (64 - k % 64)) = rotl x k := by
  rw [Nat.mod_eq_of_lt hk]; rfl
theorem rot_any (x : UInt64) (k : Nat) (hk : k < 64) (w : World) :
    Calls Try.prog 79 #[.int .u64 (x.toNat : Int), .int .i64 (k : Int)] w fun e w' => e = .returned (.int .u64 ((rotl x k).toNat : Int)) ∧ w = w' := by
  go_enter Try.func79, Try.ntmps79
  go_wp2
  go_ret
  exact ⟨ret_int (by rw [← rot_form x k hk]), rfl⟩
theorem left_any (x : UInt64) (k : Nat) (hk : k < 64) (w : World) :
    Calls Try.prog 83 #[.int .u64 (x.toNat : Int), .int .i64 (k : Int)] w fun e w' => e = .returned (.int .u64 ((rotl x k).toNat : Int)) ∧ ∃ n, w' = w.drewN n := by
  go_enter Try.func83, Try.ntmps83
  go_wp2
  go_quiet (fail)
  go_wp2
  go_ret
  exact ⟨rfl, nq, rfl⟩
theorem place_any (x y : Int) (w : World) (hx : 0 ≤ x) (hx' : x ≤ 1000) (hy : 0 ≤ y) (hy' : y ≤ 1000) :
    Calls Try.prog 82 #[.int .i64 x, .int .i64 y] w fun e w' => e = .returned (.int .i64 ((place x.toNat y.toNat : Nat) : Int)) ∧ w = w' := by
  go_enter Try.func82, Try.ntmps82
  go_wp2
  go_ret
  exact ⟨ret_int (by unfold place; omega), rfl⟩
theorem goesTo_any (i : Nat) (w : World) (hi : i ≤ 1000) :
    Calls Try.prog 80 #[.int .i64 (i : Int)] w fun e w' => e = .returned (.int .i64 ((goesTo i : Nat) : Int)) ∧ w = w' := by
  go_enter Try.func80, Try.ntmps80
  go_wp2
  go_ret
  exact ⟨ret_int (by unfold goesTo; omega), rfl⟩
set_option maxHeartbeats 400000 in
theorem bit_any (t : Int) (w : World) (hx : 0 ≤ t) (hx' : t ≤ 1000) :
    Calls Try.prog 84 #[.int .i64 t] w fun e w' => e = .returned (.int .u64 ((bitW t.toNat).toNat : Int)) ∧ w = w' := by
  go_enter Try.func84, Try.ntmps84
  go_wp2
  go_loop [3, 4] (fun r i => ∃ k : Nat, (k : Int) ≤ t ∧ i = .int .i64 k ∧ r = .int .i64 (lfsr k : Nat)) (fun _ i => (t - intOf i).toNat)
  case atStart => exact ⟨0, by omega, rfl, rfl⟩
  case round =>
    obtain ⟨k, hk, rfl, rfl⟩ := hrel
    have hb := lfsr_lt k
    by_cases hlt : (k : Int) < t
    · by_cases hc : 255 < 2 * lfsr k
      · go_wp2
        go_round
        case rel =>
          refine ⟨k + 1, by omega, by go_num, ?_⟩
          have e := xor_i64 (2 * lfsr k) 369 (by omega) (by omega)
          have e2 : lfsr (k + 1) = (2 * lfsr k) ^^^ 369 := by rw [lfsr, if_pos hc]
          rw [e2, ← e]; rfl
        case measure => simp [intOf]; omega
      · go_wp2
        go_round
        case rel =>
          refine ⟨k + 1, by omega, by go_num, ?_⟩
          have e2 : lfsr (k + 1) = 2 * lfsr k := by rw [lfsr, if_neg hc]
          rw [e2]; simp
        case measure => simp [intOf]; omega
    · go_wp2
      go_ret
      have hkt : t.toNat = k := by omega
      refine ⟨ret_int ?_, rfl⟩
      have e := and_i64 (lfsr k) 1 (by omega) (by omega)
      rw [show (1 : Int) = ((1 : Nat) : Int) from rfl, e, IntKind.wrap_u64, hkt, bitW, bitR, nat_mask1]
      simp
end Go.Proofs.Ytgkakddldobpkaa
