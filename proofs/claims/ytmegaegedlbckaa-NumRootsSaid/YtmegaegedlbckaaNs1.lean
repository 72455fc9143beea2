/- Arrays of words compared; a number shifted down; bits laid one by one. -/
import Derived.Test.YtmegaegedlbckaaNm22
import Derived.ChangeKeysEq
namespace Mvp
theorem half_word (N i : Nat) : lw (N / 2) i = lw N i / 2 ||| (lw N (i + 1) * 9223372036854775808 % 18446744073709551616) := by
  have h1 : lw N (i + 1) * 9223372036854775808 % 18446744073709551616 = 2 ^ 63 * (lw N (i + 1) % 2) := by
    have : (18446744073709551616 : Nat) = 9223372036854775808 * 2 := by decide
    rw [this, Nat.mul_comm, Nat.mul_mod_mul_left]
  have h2 : lw N i / 2 < 2 ^ 63 := by have := lw_lt N i; omega
  rw [h1, Nat.or_comm, ← Nat.two_pow_add_eq_or_of_lt h2]
  have e1 : lw N (i + 1) = N / B64 ^ i / 18446744073709551616 % 18446744073709551616 := by
    unfold lw
    rw [Nat.pow_succ, ← Nat.div_div_eq_div_mul]
  have e2 : lw (N / 2) i = N / B64 ^ i / 2 % 18446744073709551616 := by
    unfold lw
    rw [Nat.div_div_eq_div_mul, Nat.mul_comm, ← Nat.div_div_eq_div_mul]
  have e3 : lw N i = N / B64 ^ i % 18446744073709551616 := rfl
  rw [e1, e2, e3]
  generalize N / B64 ^ i = x
  omega
/-- a bit is laid -/
theorem bit_step (n q k b : Nat) (hq : q < 2 ^ k) (hb : b < 2) (hk : k / 64 < n) : (limbs n q).set (k / 64) (lw q (k / 64) ||| b * 2 ^ (k % 64)) = limbs n (q + b * 2 ^ k) := by
  have e0 : 2 ^ k = B64 ^ (k / 64) * 2 ^ (k % 64) := by
    rw [show B64 = 2 ^ 64 from rfl, ← Nat.pow_mul, ← Nat.pow_add]
    congr 1; omega
  have hj : q / B64 ^ (k / 64) < 2 ^ (k % 64) := Nat.div_lt_of_lt_mul (by rw [← e0]; exact hq)
  have hr : 2 ^ (k % 64) * 2 ≤ B64 := by
    rw [← Nat.pow_succ, show B64 = 2 ^ 64 from rfl]
    exact Nat.pow_le_pow_right (by decide) (by omega)
  have hy : b * 2 ^ (k % 64) ≤ 2 ^ (k % 64) := by
    have := Nat.mul_le_mul_right (2 ^ (k % 64)) (show b ≤ 1 by omega)
    rwa [Nat.one_mul] at this
  rw [e0, Nat.mul_left_comm b]
  apply List.ext_getElem?
  intro i
  rw [List.getElem?_set, limbs_length]
  rcases Nat.lt_or_ge i n with hi | hi
  · rw [limbs_get _ _ _ hi, limbs_get _ _ _ hi]
    rcases Nat.lt_trichotomy i (k / 64) with h | h | h
    · rw [if_neg (by omega), lw_shift_lo _ _ _ _ h]
    · subst h
      rw [if_pos rfl, if_pos hi]
      congr 1
      have h2 := lw_shift_hi q (b * 2 ^ (k % 64)) (k / 64) 0
      rw [Nat.add_zero] at h2
      rw [h2]
      rw [Nat.mul_comm b] at hy h2 ⊢
      have h3 : lw q (k / 64) = q / B64 ^ (k / 64) := Nat.mod_eq_of_lt (by generalize q / B64 ^ (k / 64) = y at *; generalize 2 ^ (k % 64) = z at *; omega)
      rw [h3, Nat.or_comm, ← Nat.two_pow_add_eq_or_of_lt hj]
      simp only [lw, Nat.pow_zero, Nat.div_one]
      generalize q / B64 ^ (k / 64) = y at *
      generalize 2 ^ (k % 64) * b = u at *
      generalize 2 ^ (k % 64) = z at *
      rw [Nat.add_comm]
      exact (Nat.mod_eq_of_lt (by omega)).symm
    · rw [if_neg (by omega)]
      congr 1
      obtain ⟨j, rfl⟩ : ∃ j, i = k / 64 + (1 + j) := ⟨i - k / 64 - 1, by omega⟩
      rw [lw_shift_hi, ← lw_div q]
      rw [lw_top (q / B64 ^ (k / 64)) 1 _ (by rw [Nat.pow_one]; omega) (by omega), lw_top _ 1 _ (by rw [Nat.pow_one]; omega) (by omega)]
  · rw [if_neg (by omega), List.getElem?_eq_none (by rw [limbs_length]; exact hi), List.getElem?_eq_none (by rw [limbs_length]; exact hi)]
theorem quarter_step (P k : Nat) : P / 4 % 2 ^ (k + 1) = P / 4 % 2 ^ k + (P / 2 ^ (k + 2) % 2) * 2 ^ k := by
  have e : P / 2 ^ (k + 2) = P / 4 / 2 ^ k := by
    rw [Nat.div_div_eq_div_mul, Nat.pow_add, Nat.mul_comm]
  rw [e, Nat.pow_succ, Nat.mod_mul, Nat.mul_comm (2 ^ k)]
end Mvp
namespace Go.Mv
open Go.RowKit Mvp
variable {P : Program}
theorem run_eq4 {t e : TypeId} (hu : P.underlying t = some (.array 4 e)) (he : P.underlying e = some (.int .u64)) (hi0 : (P.info? e).map (·.size) = some 1) (a b : Nat) (w : World) :
    (Op.equal t (.agg (cw 4 a).toArray) (.agg (cw 4 b).toArray)).run P w = .ok (decide (a % B64 ^ 4 = b % B64 ^ 4)) w := by
  obtain ⟨j, hj, hsz⟩ : ∃ j, P.info? e = some j ∧ j.size = 1 := by simpa using hi0
  have hc : P.cellsOf e = 1 := by simp [Program.cellsOf, hj, hsz]
  have hp : ∀ (x k : Nat), k < 4 → (part e (cw 4 x).toArray k).run P w = .ok (.int .u64 (lw x k : Nat)) w := by
    intro x k hk
    have hv := cw_get 4 x k hk
    simp [part, isAgg, run_underlying he, sizeOf, typeInfo, hj, hsz, hv]
  have hq0 : ∀ (d : Nat) (x y : Int), (Op.equalIn (d + 1) e (.int .u64 x) (.int .u64 y)).run P w = .ok (x == y) w := fun d x y => by
    simp [Op.equalIn, run_underlying he]
  have hq : ∀ x y : Int, (Op.equalIn 9999 e (.int .u64 x) (.int .u64 y)).run P w = .ok (x == y) w := hq0 9998
  have hbe : ∀ k, ((lw a k : Int) == (lw b k : Int)) = decide (lw a k = lw b k) := by
    intro k
    rw [Bool.eq_iff_iff]; simp; omega
  show (Op.equalIn (9999 + 1) t _ _).run P w = _
  rw [run_equalIn_array w 9999 _ _ hu hj, hc]
  have hfin : decide (a % B64 ^ 4 = b % B64 ^ 4) = (decide (lw a 0 = lw b 0) && (decide (lw a 1 = lw b 1) && (decide (lw a 2 = lw b 2) && decide (lw a 3 = lw b 3)))) := by
    rw [Bool.eq_iff_iff]
    simp only [decide_eq_true_eq, Bool.and_eq_true]
    constructor
    · intro h
      refine ⟨?_, ?_, ?_, ?_⟩ <;> (rw [← lw_mod a _ 4 (by decide), h, lw_mod b _ 4 (by decide)])
    · rintro ⟨h0, h1, h2, h3⟩
      refine limbs_mod_inj (limbs_ext fun i hi => ?_)
      have : i = 0 ∨ i = 1 ∨ i = 2 ∨ i = 3 := by omega
      rcases this with rfl | rfl | rfl | rfl <;> assumption
  rw [hfin]
  show (Op.eqItems 9999 e 1 _ _ [0, 1, 2, 3]).run P w = _
  have p0 := fun x => hp x 0 (by decide)
  have p1 := fun x => hp x 1 (by decide)
  have p2 := fun x => hp x 2 (by decide)
  have p3 := fun x => hp x 3 (by decide)
  clear hp hq0 hfin
  by_cases h0 : lw a 0 = lw b 0 <;> by_cases h1 : lw a 1 = lw b 1 <;> by_cases h2 : lw a 2 = lw b 2 <;> by_cases h3 : lw a 3 = lw b 3 <;> simp [Op.eqItems, p0, p1, p2, p3, hq, hbe, h0, h1, h2, h3, -beq_iff_eq]
end Go.Mv
