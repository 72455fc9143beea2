/- Pure sponge: words and their bytes are one. -/
import Derived.Test.YtgkakddldobpkaaSpg3
namespace Mvp

theorem lo8_shr_toNat (a : UInt64) (k : Nat) : (lo8 (shr a k)).toNat = a.toNat / 2 ^ k % 256 := by
  have h : a.toNat / 2 ^ k < 18446744073709551616 := Nat.lt_of_le_of_lt (Nat.div_le_self _ _) a.toNat_lt
  simp only [lo8, shr, UInt64.toNat_toUInt8, UInt64.toNat_ofNat']
  omega
theorem byte_bit (a : UInt64) (k i : Nat) : (lo8 (shr a k)).toNat.testBit i = (decide (i < 8) && a.toNat.testBit (i + k)) := by
  rw [lo8_shr_toNat, show (256 : Nat) = 2 ^ 8 from rfl, Nat.testBit_mod_two_pow, Nat.testBit_div_two_pow]
theorem byte_big (x : UInt8) (i : Nat) (h : 8 ≤ i) : x.toNat.testBit i = false :=
  Nat.testBit_lt_two_pow (Nat.lt_of_lt_of_le x.toNat_lt (by have := Nat.pow_le_pow_right (show 0 < 2 by omega) h; simpa using this))
theorem xor_byte (a : UInt64) (x : UInt8) (m t : Nat) (hm : m < 8) (_ht : t < 8) :
    lo8 (shr (wx a (shl (wid x) (8 * m))) (8 * t)) = if t = m then bx (lo8 (shr a (8 * m))) x else lo8 (shr a (8 * t)) := by
  apply UInt8.toNat_inj.1
  apply Nat.eq_of_testBit_eq
  intro i
  rw [byte_bit]
  have hw : (wx a (shl (wid x) (8 * m))).toNat = a.toNat ^^^ (x.toNat * 2 ^ (8 * m)) := by
    simp only [wx, UInt64.toNat_xor]; rw [shl_wid x _ (by omega)]
  rw [hw, Nat.testBit_xor, Nat.testBit_mul_two_pow]
  by_cases hi : i < 8
  · by_cases e : t = m
    · subst e
      rw [if_pos rfl]
      simp only [bx, UInt8.toNat_xor, Nat.testBit_xor, byte_bit]
      simp [hi]
    · rw [if_neg e, byte_bit]
      have hz : (decide (8 * m ≤ i + 8 * t) && x.toNat.testBit (i + 8 * t - 8 * m)) = false := by
        rcases Nat.lt_or_ge t m with h | h
        · have : ¬ (8 * m ≤ i + 8 * t) := by omega
          simp [this]
        · rw [byte_big x _ (by omega)]; simp
      rw [hz]; simp [hi]
  · have h1 : (decide (i < 8)) = false := by simp [hi]
    rw [h1]
    split
    · rw [byte_big _ i (by omega)]; rfl
    · rw [byte_big _ i (by omega)]; rfl

theorem sByte_xorStep (S : List UInt64) (hS : S.length = 25) (k i : Nat) (x : UInt8) (hk : k < 200) : sByte (xorStep S k x) i = if i = k then bx (sByte S k) x else sByte S i := by
  unfold sByte xorStep
  rw [getD_set _ _ _ _ (by omega)]
  by_cases hd : k / 8 = i / 8
  · rw [if_pos hd, xor_byte _ _ _ _ (by omega) (by omega), ← hd]
    by_cases e : i = k
    · rw [if_pos e, if_pos (by omega)]
    · rw [if_neg e, if_neg (by omega)]
  · rw [if_neg hd, if_neg (by omega)]

/-- words with the same bytes are the same -/
theorem words_ext (S S' : List UInt64) (h : S.length = 25) (h' : S'.length = 25) (hb : ∀ i, i < 200 → sByte S i = sByte S' i) : S = S' := by
  apply List.ext_getElem (by omega)
  intro j hj hj'
  have hw : ∀ (T : List UInt64) (hT : j < T.length), T.getD j 0 = T[j] := fun T hT => by simp [List.getD_eq_getElem?_getD, hT]
  rw [← hw S hj, ← hw S' hj']
  apply UInt64.toNat_inj.1
  apply Nat.eq_of_testBit_eq
  intro i
  rcases Nat.lt_or_ge i 64 with hi | hi
  · have h1 := hb (8 * j + i / 8) (by omega)
    have h2 := congrArg (fun y : UInt8 => y.toNat.testBit (i % 8)) h1
    simp only [sByte] at h2
    rw [byte_bit, byte_bit, show (8 * j + i / 8) / 8 = j by omega, show (8 * j + i / 8) % 8 = i / 8 by omega, show i % 8 + 8 * (i / 8) = i by omega] at h2
    simpa [show i % 8 < 8 by omega] using h2
  · have big : ∀ (y : UInt64), y.toNat.testBit i = false := fun y => Nat.testBit_lt_two_pow (Nat.lt_of_lt_of_le y.toNat_lt (by have := Nat.pow_le_pow_right (show 0 < 2 by omega) hi; simpa using this))
    rw [big, big]
theorem sByte_xorAt (l : List UInt8) : ∀ (S : List UInt64) (k i : Nat), S.length = 25 → k + l.length ≤ 200 → sByte (xorAt S k l) i = if k ≤ i ∧ i < k + l.length then bx (sByte S i) (l.getD (i - k) 0) else sByte S i := by
  induction l with
  | nil => intro S k i _ _; rw [if_neg (by simp)]; rfl
  | cons x l ih =>
    intro S k i hS h
    simp only [List.length_cons] at h
    rw [xorAt, ih _ _ _ (by rw [xorStep_len, hS]) (by omega), sByte_xorStep S hS _ _ _ (by omega)]
    by_cases e : i = k
    · subst e
      rw [if_neg (by omega), if_pos rfl, if_pos (by simp)]
      simp
    · by_cases hr : k + 1 ≤ i ∧ i < k + 1 + l.length
      · rw [if_pos hr, if_neg e, if_pos (by simp; omega), show i - k = (i - (k + 1)) + 1 by omega, List.getD_cons_succ]
      · rw [if_neg hr, if_neg e, if_neg (by simp; omega)]
theorem toB_get (S : List UInt64) (n i : Nat) (h : i < n) : (toB S n).getD i 0 = sByte S i := by
  simp [toB, List.getD_eq_getElem?_getD, List.getElem?_range h]
theorem sByte_zeros (i : Nat) : sByte zeros25 i = 0 := by
  have hz : zeros25.getD (i / 8) 0 = 0 := by
    rcases Nat.lt_or_ge (i / 8) 25 with h | h
    · have : ∀ j, j < 25 → zeros25.getD j 0 = 0 := by decide
      exact this _ h
    · rw [List.getD_eq_getElem?_getD, List.getElem?_eq_none (by simpa [zeros25] using h)]; rfl
  unfold sByte
  rw [hz]
  apply UInt8.toNat_inj.1
  rw [lo8_shr_toNat]; simp
theorem bx_zero (x : UInt8) : bx 0 x = x := by simp [bx]
/-- 200 bytes into words, and back -/
theorem bytes_back (b : List UInt8) (hb : b.length = 200) (i : Nat) (hi : i < 200) : sByte (xorB zeros25 b 200) i = b.getD i 0 := by
  rw [xorB_eq _ _ _ (by omega), List.take_of_length_le (by omega), sByte_xorAt b _ _ _ (by simp [zeros25]) (by omega), if_pos (by omega), sByte_zeros, bx_zero]
  simp
/-- some bytes of the state's are changed: as words -/
theorem words_of (S : List UInt64) (hS : S.length = 25) (l b : List UInt8) (hl : l.length ≤ 200) (hb : b.length = 200) (h : ∀ i, i < 200 → b.getD i 0 = if i < l.length then bx (sByte S i) (l.getD i 0) else sByte S i) : xorB zeros25 b 200 = xorAt S 0 l := by
  refine words_ext _ _ (by rw [xorB_len]; simp [zeros25]) (by rw [xorAt_len, hS]) (fun i hi => ?_)
  rw [bytes_back b hb i hi, sByte_xorAt l S 0 i hS (by omega), h i hi]
  simp
end Mvp
