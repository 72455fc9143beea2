/- A modulus of mont's: its numbers, its block. -/
import Derived.Test.YtmegaegedlbckaaNm2
import Derived.Test.YtmegaegedlbckaaNc1
namespace Mvp
structure Md where
  M : Nat
  neg : Nat
  Ri : Nat
structure Md.Ok (m : Md) : Prop where
  one : 1 < m.M
  lt : m.M < B64 ^ 4
  negLt : m.neg < 18446744073709551616
  neg : (m.M * m.neg + 1) % 18446744073709551616 = 0
  inv : B64 ^ 4 * m.Ri % m.M = 1
def mP : Md := ⟨pP, 15580212934572586289, 91248989341183975618893650062416139444822672217621753343178995607984094583082⟩
def mQ : Md := ⟨pQ, 5408259542528602431, 98562742561918706241446412617699626731164144128788972284189895985653995782166⟩
theorem mP_ok : mP.Ok := ⟨by decide, by decide, by decide, by decide, by decide⟩
theorem mQ_ok : mQ.Ok := ⟨by decide, by decide, by decide, by decide, by decide⟩
theorem mont_bounds (T b M x V mm : Nat) (hb : b < M) (hM : M < B64 ^ 4) (hT : T < b + M) (hx : x < 18446744073709551616) (hV : T + x * b = V) (hm : mm < 18446744073709551616) :
    T < B64 ^ 5 ∧ T + x * b < B64 ^ 6 ∧ V < B64 ^ 6 ∧ V + mm * M < B64 ^ 6 := by
  have h1 : x * b ≤ 18446744073709551615 * b := Nat.mul_le_mul_right _ (by omega)
  have h2 : mm * M ≤ 18446744073709551615 * M := Nat.mul_le_mul_right _ (by omega)
  have e4 : B64 ^ 5 = 18446744073709551616 * B64 ^ 4 := by rw [Nat.pow_succ, Nat.mul_comm]
  have e5 : B64 ^ 6 = 18446744073709551616 * B64 ^ 5 := by rw [Nat.pow_succ, Nat.mul_comm]
  generalize B64 ^ 6 = R6 at *
  generalize B64 ^ 5 = R5 at *
  generalize B64 ^ 4 = R4 at *
  omega
theorem lw4_one (T : Nat) (h2 : T < 2 * B64 ^ 4) (h : ¬ T < B64 ^ 4) : lw T 4 = 1 := by
  have h0 := b64_pos 4
  have hd : T / B64 ^ 4 = 1 := by
    generalize B64 ^ 4 = R at *
    have h1 : T - R < R := by omega
    rw [show T = (T - R) + R by omega, Nat.add_div_right _ h0, Nat.div_eq_of_lt h1]
  unfold lw
  rw [hd]; rfl
theorem mont_final (T M : Nat) (hM : M < B64 ^ 4) (hT : T < 2 * M) :
    (T < M → lw T 4 = 0 ∧ cSub T M 4 = 1 ∧ Go.Mv.cw 4 (T % M) = Go.Mv.cw 4 T) ∧
    (¬ T < M → Go.Mv.cw 4 (T % M) = Go.Mv.cw 4 (T + B64 ^ 4 - M) ∧ (T < B64 ^ 4 → lw T 4 = 0 ∧ cSub T M 4 = 0)) := by
  constructor
  · intro h
    exact ⟨lw_top T 4 4 (Nat.lt_trans h hM) (Nat.le_refl _), by rw [cSub_all _ _ _ (Nat.lt_trans h hM) hM, if_pos h], by rw [Nat.mod_eq_of_lt h]⟩
  · intro h
    refine ⟨?_, fun h4 => ⟨lw_top T 4 4 h4 (Nat.le_refl _), by rw [cSub_all _ _ _ h4 hM, if_neg h]⟩⟩
    rw [mod_of_lt2 T M hT, if_neg h, ← Go.Mv.cw_mod 4 (T + B64 ^ 4 - M), show T + B64 ^ 4 - M = (T - M) + B64 ^ 4 by omega, Nat.add_mod_right, Go.Mv.cw_mod]
theorem montT_zero (M neg b a : Nat) : montT M neg b a 0 = 0 := rfl
theorem montT_succ (M neg b a k : Nat) : montT M neg b a (k + 1) = (montT M neg b a k + lw a k * b + ((montT M neg b a k + lw a k * b) % 18446744073709551616 * neg % 18446744073709551616) * M) / 18446744073709551616 := rfl
end Mvp
namespace Go.Mv
open Go.RowKit Mvp
def mdL (m : Md) : List Value := cw 4 m.M ++ ([.int .u64 (m.neg : Int)] ++ (cw 4 (B64 ^ 4 % m.M) ++ cw 4 (B64 ^ 4 * B64 ^ 4 % m.M)))
theorem md_M (m : Md) : ((mdL m).drop 0).take (cw 4 m.M).length = cw 4 m.M := by simp [mdL]
theorem md_one (m : Md) : ((mdL m).drop 5).take (cw 4 (B64 ^ 4 % m.M)).length = cw 4 (B64 ^ 4 % m.M) := by
  have h : (cw 4 m.M ++ [Value.int .u64 (m.neg : Int)]).length = 5 := by rw [List.length_append, cw_len]; rfl
  rw [mdL, ← List.append_assoc, List.drop_append_of_le_length (by omega), List.drop_of_length_le (by omega), List.nil_append]
  simp
theorem md_sq (m : Md) : ((mdL m).drop 9).take (cw 4 (B64 ^ 4 * B64 ^ 4 % m.M)).length = cw 4 (B64 ^ 4 * B64 ^ 4 % m.M) := by
  have h : (cw 4 m.M ++ ([Value.int .u64 (m.neg : Int)] ++ cw 4 (B64 ^ 4 % m.M))).length = 9 := by rw [List.length_append, List.length_append, cw_len, cw_len]; rfl
  have e : mdL m = (cw 4 m.M ++ ([Value.int .u64 (m.neg : Int)] ++ cw 4 (B64 ^ 4 % m.M))) ++ cw 4 (B64 ^ 4 * B64 ^ 4 % m.M) := by simp [mdL]
  rw [e, List.drop_append_of_le_length (by omega), List.drop_of_length_le (by omega), List.nil_append, List.take_of_length_le (Nat.le_refl _)]
theorem md_neg (m : Md) : (mdL m)[4]? = some (.int .u64 (m.neg : Int)) := by
  rw [mdL, List.getElem?_append_right (by rw [cw_len]; exact Nat.le_refl _), cw_len]; rfl
theorem shift6 (V : Nat) (h : V < B64 ^ 6) : (splice (cw 6 V) 0 (((cw 6 V).drop 1).take 5)).set 5 (.int .u64 0) = cw 6 (V / 18446744073709551616) := by
  have e : V / 18446744073709551616 = V / B64 ^ 1 := by rw [Nat.pow_one]
  have h6 : lw V 6 = 0 := lw_top V 6 6 h (Nat.le_refl _)
  have hw := fun i => lw_div V 1 i
  rw [e]
  show _ = [Value.int .u64 (lw (V / B64 ^ 1) 0 : Nat), Value.int .u64 (lw (V / B64 ^ 1) 1 : Nat), Value.int .u64 (lw (V / B64 ^ 1) 2 : Nat), Value.int .u64 (lw (V / B64 ^ 1) 3 : Nat), Value.int .u64 (lw (V / B64 ^ 1) 4 : Nat), Value.int .u64 (lw (V / B64 ^ 1) 5 : Nat)]
  rw [hw 0, hw 1, hw 2, hw 3, hw 4, hw 5, show 1 + 5 = 6 from rfl, h6]
  rfl
theorem cw6_low (V : Nat) : ((cw 6 V).drop 0).take (cw 4 V).length = cw 4 V := rfl
end Go.Mv
