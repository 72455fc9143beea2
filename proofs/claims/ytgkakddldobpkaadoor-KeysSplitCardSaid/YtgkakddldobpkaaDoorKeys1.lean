/- math/bits: OnesCount64, TrailingZeros64. -/
import Derived.Test.YtgkakddldobpkaaDoorBox3
import Derived.Test.YtgkakddldobpkaaDoorPop
import Derived.Test.YtgkakddldobpkaaDoorProg
import Derived.IntWalk
namespace Go.Proofs.YtgkakddldobpkaaDoor
open Go.RowKit Go.Mv Mvk

theorem and_u64 (a b : Nat) (ha : a < 18446744073709551616) (hb : b < 18446744073709551616) : bits .and .u64 (a : Int) (b : Int) = ((a &&& b : Nat) : Int) := by
  have h1 : BitVec.ofInt 64 (a : Int) = BitVec.ofNat 64 a := by simp
  have h2 : BitVec.ofInt 64 (b : Int) = BitVec.ofNat 64 b := by simp
  have h3 : (BitVec.ofNat 64 a &&& BitVec.ofNat 64 b).toNat = a &&& b := by
    rw [BitVec.toNat_and, BitVec.toNat_ofNat, BitVec.toNat_ofNat, Nat.mod_eq_of_lt (by omega), Nat.mod_eq_of_lt (by omega)]
  show IntKind.u64.wrap (((BitVec.ofInt 64 (a : Int) &&& BitVec.ofInt 64 (b : Int)).toNat : Nat) : Int) = _
  rw [h1, h2, h3, IntKind.wrap_u64]
  have : a &&& b ≤ b := Nat.and_le_right
  omega

theorem and_i64' (a b : Nat) (ha : a < 9223372036854775808) (hb : b < 9223372036854775808) : bits .and .i64 (a : Int) (b : Int) = ((a &&& b : Nat) : Int) := and_i64 a b ha hb
set_option maxHeartbeats 400000 in
set_option maxRecDepth 100000 in
theorem ones_any (x : Nat) (w : World) (hx : x < 18446744073709551616) :
    Calls Tryd.prog 36 #[.int .u64 (x : Int)] w fun e w' => e = .returned (.int .i64 ((pcn 64 x : Nat) : Int)) ∧ w = w' := by
  obtain ⟨k1, k2, k3, k4, k5, k6, k7, k8⟩ := ones64 x
  have e1 : bits .and .u64 ((x : Int) / 2) 6148914691236517205 = ((x / 2 &&& 6148914691236517205 : Nat) : Int) := by
    have := and_u64 (x / 2) 6148914691236517205 (by omega) (by omega)
    simpa using this
  have e2 : bits .and .u64 (x : Int) 6148914691236517205 = ((x &&& 6148914691236517205 : Nat) : Int) := and_u64 x 6148914691236517205 (by omega) (by omega)
  generalize (x / 2 &&& 6148914691236517205 : Nat) = p1 at *
  generalize (x &&& 6148914691236517205 : Nat) = p2 at *
  have e3 : bits .and .u64 (((p1 : Int) + (p2 : Int)) / 4) 3689348814741910323 = (((p1 + p2) / 4 &&& 3689348814741910323 : Nat) : Int) := by
    have := and_u64 ((p1 + p2) / 4) 3689348814741910323 (by omega) (by omega)
    simpa using this
  have e4 : bits .and .u64 ((p1 : Int) + (p2 : Int)) 3689348814741910323 = ((p1 + p2 &&& 3689348814741910323 : Nat) : Int) := by
    have := and_u64 (p1 + p2) 3689348814741910323 (by omega) (by omega)
    simpa using this
  generalize ((p1 + p2) / 4 &&& 3689348814741910323 : Nat) = p3 at *
  generalize (p1 + p2 &&& 3689348814741910323 : Nat) = p4 at *
  have e5 : bits .and .u64 (((p3 : Int) + (p4 : Int)) / 16 + ((p3 : Int) + (p4 : Int))) 1085102592571150095 = (((p3 + p4) / 16 + (p3 + p4) &&& 1085102592571150095 : Nat) : Int) := by
    have := and_u64 ((p3 + p4) / 16 + (p3 + p4)) 1085102592571150095 (by omega) (by omega)
    simpa using this
  have k9 : (p3 + p4) / 16 + (p3 + p4) &&& 1085102592571150095 ≤ 1085102592571150095 := Nat.and_le_right
  generalize ((p3 + p4) / 16 + (p3 + p4) &&& 1085102592571150095 : Nat) = p5 at *
  obtain ⟨v1, hv1⟩ : ∃ v, v = p5 + p5 / 256 := ⟨_, rfl⟩
  rw [← hv1] at k1 k6 k7 k8
  obtain ⟨v2, hv2⟩ : ∃ v, v = v1 + v1 / 65536 := ⟨_, rfl⟩
  rw [← hv2] at k1 k7 k8
  obtain ⟨v3, hv3⟩ : ∃ v, v = v2 + v2 / 4294967296 := ⟨_, rfl⟩
  rw [← hv3] at k1 k8
  have b1 : v1 ≤ 1200000000000000000 := by omega
  have b2 : v2 ≤ 1300000000000000000 := by omega
  have b3 : v3 ≤ 1400000000000000000 := by omega
  have i1 : (p5 : Int) + (p5 : Int) / 256 = (v1 : Int) := by omega
  have i2 : (v1 : Int) + (v1 : Int) / 65536 = (v2 : Int) := by omega
  have i3 : (v2 : Int) + (v2 : Int) / 4294967296 = (v3 : Int) := by omega
  have e6 : bits .and .i64 (v3 : Int) 127 = ((pcn 64 x : Nat) : Int) := by
    have h := and_i64 v3 127 (by omega) (by omega)
    rw [show v3 &&& 127 = v3 % 128 from Nat.and_two_pow_sub_one_eq_mod v3 7, k1] at h
    exact h
  have HX := Lib.hid k1
  clear hv1 hv2 hv3 k1 k6 k7 k8
  go_enter Tryd.func36, Tryd.ntmps36
  go_wp2_with fail
  go_ret
  exact ⟨rfl, rfl⟩
end Go.Proofs.YtgkakddldobpkaaDoor
