/- Plain numbers: a number as words of 64 bits; sums, differences and products word by word. -/
namespace Mvp

/-- 2^64 -/
abbrev B64 : Nat := 18446744073709551616
/-- the i-th word -/
def lw (a i : Nat) : Nat := a / B64 ^ i % B64
def limbs (n a : Nat) : List Nat := (List.range n).map (lw a)
/-- the k lowest words of A, above them those of B -/
def mix (A B k : Nat) : Nat := A % B64 ^ k + B / B64 ^ k * B64 ^ k

theorem b64_pos (k : Nat) : 0 < B64 ^ k := Nat.pow_pos (by decide)
theorem lw_lt (a i : Nat) : lw a i < 18446744073709551616 := Nat.mod_lt _ (by decide)
theorem limbs_length (n a : Nat) : (limbs n a).length = n := by simp [limbs]
theorem limbs_get (n a i : Nat) (h : i < n) : (limbs n a)[i]? = some (lw a i) := by simp [limbs, h]
theorem limbs_getD (n a i : Nat) (h : i < n) : (limbs n a).getD i 0 = lw a i := by simp [limbs, List.getD_eq_getElem?_getD, h]
theorem limbs4 (a : Nat) : limbs 4 a = [lw a 0, lw a 1, lw a 2, lw a 3] := rfl

theorem lw_mod (a i k : Nat) (h : i < k) : lw (a % B64 ^ k) i = lw a i := by
  unfold lw
  obtain ⟨j, rfl⟩ : ∃ j, k = i + (1 + j) := ⟨k - i - 1, by omega⟩
  rw [Nat.pow_add, Nat.mod_mul_right_div_self, Nat.pow_add, Nat.pow_one, Nat.mod_mul_right_mod]
theorem lw_div (a k i : Nat) : lw (a / B64 ^ k) i = lw a (k + i) := by
  unfold lw
  rw [Nat.div_div_eq_div_mul, ← Nat.pow_add]
theorem mix_mod (A B k : Nat) : mix A B k % B64 ^ k = A % B64 ^ k := by
  unfold mix
  rw [Nat.add_mul_mod_self_right, Nat.mod_mod]
theorem mix_div (A B k : Nat) : mix A B k / B64 ^ k = B / B64 ^ k := by
  unfold mix
  rw [Nat.add_mul_div_right _ _ (b64_pos k), Nat.div_eq_of_lt (Nat.mod_lt _ (b64_pos k)), Nat.zero_add]
theorem lw_mix (A B k i : Nat) : lw (mix A B k) i = if i < k then lw A i else lw B i := by
  split
  · rename_i h
    rw [← lw_mod _ i k h, mix_mod, lw_mod _ i k h]
  · rename_i h
    obtain ⟨j, rfl⟩ : ∃ j, i = k + j := ⟨i - k, by omega⟩
    rw [← lw_div, ← lw_div, mix_div]
theorem limbs_ext {n a b : Nat} (h : ∀ i, i < n → lw a i = lw b i) : limbs n a = limbs n b := by
  unfold limbs
  apply List.map_congr_left
  intro i hi
  exact h i (List.mem_range.1 hi)
theorem limbs_set (n A B k : Nat) (h : k < n) : (limbs n (mix A B k)).set k (lw A k) = limbs n (mix A B (k + 1)) := by
  have _h := h
  apply List.ext_getElem?
  intro i
  rw [List.getElem?_set]
  rcases Nat.lt_or_ge i n with hi | hi
  · rw [limbs_get _ _ _ hi, limbs_get _ _ _ hi, lw_mix, lw_mix, limbs_length]
    by_cases e : k = i
    · subst e; simp [h]
    · rw [if_neg e]
      congr 1
      by_cases h2 : i < k
      · rw [if_pos h2, if_pos (by omega)]
      · rw [if_neg h2, if_neg (by omega)]
  · rw [List.getElem?_eq_none (by rw [limbs_length]; exact hi), List.getElem?_eq_none (by rw [limbs_length]; exact hi)]
    split
    · rw [limbs_length, if_neg (by omega)]
    · rfl
theorem mix_zero (A B : Nat) : mix A B 0 = B := by simp [mix, Nat.mod_one]
theorem mix_all (A B k : Nat) (ha : A < B64 ^ k) (hb : B < B64 ^ k) : mix A B k = A := by
  unfold mix
  rw [Nat.mod_eq_of_lt ha, Nat.div_eq_of_lt hb, Nat.zero_mul, Nat.add_zero]
theorem mix_top (A B k : Nat) (h : B < B64 ^ k) : mix A B k = A % B64 ^ k := by
  unfold mix
  rw [Nat.div_eq_of_lt h, Nat.zero_mul, Nat.add_zero]
theorem limbs_mod (n a : Nat) : limbs n (a % B64 ^ n) = limbs n a := limbs_ext fun i hi => lw_mod a i n hi
theorem mod_succ (a k : Nat) : a % B64 ^ (k + 1) = a % B64 ^ k + B64 ^ k * lw a k := by
  unfold lw
  rw [Nat.pow_succ, Nat.mod_mul]
/-- numbers of n words are the same if their words are -/
theorem limbs_mod_inj {n a b : Nat} (h : limbs n a = limbs n b) : a % B64 ^ n = b % B64 ^ n := by
  have hw : ∀ i, i < n → lw a i = lw b i := fun i hi => by
    have h1 := limbs_get n a i hi
    rw [h, limbs_get n b i hi] at h1
    exact (Option.some.inj h1).symm
  clear h
  induction n with
  | zero => simp [Nat.mod_one]
  | succ k ih => rw [mod_succ, mod_succ, ih (fun i hi => hw i (by omega)), hw k (by omega)]
theorem limbs_inj {n a b : Nat} (ha : a < B64 ^ n) (hb : b < B64 ^ n) (h : limbs n a = limbs n b) : a = b := by
  have := limbs_mod_inj h
  rwa [Nat.mod_eq_of_lt ha, Nat.mod_eq_of_lt hb] at this

/-- the carry behind k words of a sum -/
def cAdd (a b k : Nat) : Nat := (a % B64 ^ k + b % B64 ^ k) / B64 ^ k
theorem cAdd_zero (a b : Nat) : cAdd a b 0 = 0 := by simp [cAdd, Nat.mod_one]
theorem cAdd_le (a b k : Nat) : cAdd a b k ≤ 1 := by
  unfold cAdd
  have h := b64_pos k
  have h1 := Nat.mod_lt a h
  have h2 := Nat.mod_lt b h
  generalize B64 ^ k = W at *
  exact Nat.le_of_lt_succ (Nat.div_lt_of_lt_mul (by omega))
theorem cAdd_succ (a b k : Nat) : cAdd a b (k + 1) = (lw a k + lw b k + cAdd a b k) / 18446744073709551616 := by
  unfold cAdd
  rw [mod_succ, mod_succ, Nat.pow_succ, ← Nat.div_div_eq_div_mul]
  congr 1
  have e : a % B64 ^ k + B64 ^ k * lw a k + (b % B64 ^ k + B64 ^ k * lw b k) = (a % B64 ^ k + b % B64 ^ k) + B64 ^ k * (lw a k + lw b k) := by rw [Nat.mul_add]; omega
  rw [e, Nat.add_mul_div_left _ _ (b64_pos k)]
  omega
theorem lw_add (a b k : Nat) : lw (a + b) k = (lw a k + lw b k + cAdd a b k) % 18446744073709551616 := by
  unfold lw cAdd
  have h := b64_pos k
  have e : a + b = (a % B64 ^ k + b % B64 ^ k) + B64 ^ k * (a / B64 ^ k + b / B64 ^ k) := by
    have h1 := Nat.div_add_mod a (B64 ^ k)
    have h2 := Nat.div_add_mod b (B64 ^ k)
    rw [Nat.mul_add]; omega
  have e2 : (a + b) / B64 ^ k = (a % B64 ^ k + b % B64 ^ k) / B64 ^ k + (a / B64 ^ k + b / B64 ^ k) := by
    conv => lhs; rw [e]
    rw [Nat.add_mul_div_left _ _ h]
  rw [e2]
  generalize (a % B64 ^ k + b % B64 ^ k) / B64 ^ k = x
  generalize a / B64 ^ k = y
  generalize b / B64 ^ k = z
  show (x + (y + z)) % 18446744073709551616 = (y % 18446744073709551616 + z % 18446744073709551616 + x) % 18446744073709551616
  omega
theorem cAdd_all (a b k : Nat) (ha : a < B64 ^ k) (hb : b < B64 ^ k) : cAdd a b k = (a + b) / B64 ^ k := by
  unfold cAdd; rw [Nat.mod_eq_of_lt ha, Nat.mod_eq_of_lt hb]

/-- the borrow behind k words of a difference -/
def cSub (a b k : Nat) : Nat := if a % B64 ^ k < b % B64 ^ k then 1 else 0
theorem cSub_zero (a b : Nat) : cSub a b 0 = 0 := by simp [cSub, Nat.mod_one]
theorem cSub_le (a b k : Nat) : cSub a b k ≤ 1 := by unfold cSub; split <;> omega
theorem cSub_succ (a b k : Nat) : cSub a b (k + 1) = if lw a k < lw b k + cSub a b k then 1 else 0 := by
  unfold cSub
  rw [mod_succ, mod_succ]
  have h := b64_pos k
  have h1 := Nat.mod_lt a h
  have h2 := Nat.mod_lt b h
  generalize lw a k = x
  generalize lw b k = y
  generalize a % B64 ^ k = p at *
  generalize b % B64 ^ k = q at *
  generalize B64 ^ k = W at *
  rcases Nat.lt_trichotomy x y with hxy | hxy | hxy
  · obtain ⟨d, rfl⟩ : ∃ d, y = x + 1 + d := ⟨y - x - 1, by omega⟩
    have e : W * (x + 1 + d) = W * x + W + W * d := by rw [Nat.mul_add, Nat.mul_add, Nat.mul_one]
    rw [e]
    rw [if_pos (by omega), if_pos (by omega)]
  · subst hxy
    by_cases hpq : p < q
    · rw [if_pos hpq, if_pos (by omega), if_pos (by omega)]
    · rw [if_neg hpq, if_neg (by omega), if_neg (by omega)]
  · obtain ⟨d, rfl⟩ : ∃ d, x = y + 1 + d := ⟨x - y - 1, by omega⟩
    have e : W * (y + 1 + d) = W * y + W + W * d := by rw [Nat.mul_add, Nat.mul_add, Nat.mul_one]
    rw [e]
    rw [if_neg (by omega), if_neg (by split <;> omega)]
/-- a difference of n words: D = a + 2^(64 n) - b -/
theorem lw_sub (n a b k : Nat) (hb : b < B64 ^ n) (hk : k < n) : lw (a + B64 ^ n - b) k = (lw a k + 18446744073709551616 - lw b k - cSub a b k) % 18446744073709551616 := by
  obtain ⟨j, rfl⟩ : ∃ j, n = k + (1 + j) := ⟨n - k - 1, by omega⟩
  have hW := b64_pos k
  have hT := b64_pos j
  have hN : B64 ^ (k + (1 + j)) = B64 ^ k * (B64 * B64 ^ j) := by rw [Nat.pow_add, Nat.pow_add, Nat.pow_one]
  rw [hN] at hb ⊢
  have ha1 := Nat.div_add_mod a (B64 ^ k)
  have hb1 := Nat.div_add_mod b (B64 ^ k)
  have ha2 := Nat.mod_lt a hW
  have hb2 := Nat.mod_lt b hW
  have hbh : b / B64 ^ k < B64 * B64 ^ j := Nat.div_lt_of_lt_mul hb
  unfold lw cSub
  generalize a / B64 ^ k = x at *
  generalize b / B64 ^ k = y at *
  generalize a % B64 ^ k = p at *
  generalize b % B64 ^ k = q at *
  generalize B64 ^ j = T at *
  generalize B64 ^ k = W at *
  have hq : ∃ c, c ≤ 1 ∧ (c = if p < q then 1 else 0) ∧ p + c * W < q + W ∧ q ≤ p + c * W := by
    by_cases h : p < q
    · exact ⟨1, by omega, by rw [if_pos h], by omega, by omega⟩
    · exact ⟨0, by omega, by rw [if_neg h], by omega, by omega⟩
  obtain ⟨c, hc1, hc2, hc3, hc4⟩ := hq
  rw [← hc2]
  have hyc : y + c ≤ x + B64 * T := by omega
  have e : (a + W * (B64 * T) - b) / W = x + B64 * T - y - c := by
    have h1 : a + W * (B64 * T) - b = W * (x + B64 * T - y - c) + (p + c * W - q) := by
      have h2 : W * (x + B64 * T - y - c) + W * (y + c) = W * x + W * (B64 * T) := by
        rw [← Nat.mul_add, ← Nat.mul_add]; congr 1; omega
      have h3 : W * (y + c) = W * y + c * W := by rw [Nat.mul_add, Nat.mul_comm W c]
      generalize W * (x + B64 * T - y - c) = u at *
      generalize W * (B64 * T) = v at *
      generalize W * (y + c) = z at *
      omega
    rw [h1, Nat.mul_add_div hW, Nat.div_eq_of_lt (by omega), Nat.add_zero]
  rw [e]
  show (x + 18446744073709551616 * T - y - c) % 18446744073709551616 = (x % 18446744073709551616 + 18446744073709551616 - y % 18446744073709551616 - c) % 18446744073709551616
  have hyc' : y + c ≤ x + 18446744073709551616 * T := hyc
  omega
theorem cSub_all (a b k : Nat) (ha : a < B64 ^ k) (hb : b < B64 ^ k) : cSub a b k = if a < b then 1 else 0 := by
  unfold cSub; rw [Nat.mod_eq_of_lt ha, Nat.mod_eq_of_lt hb]

/-- the carry behind k words of L + x n -/
def cMul (L x n k : Nat) : Nat := (L % B64 ^ k + x * (n % B64 ^ k)) / B64 ^ k
theorem cMul_zero (L x n : Nat) : cMul L x n 0 = 0 := by simp [cMul, Nat.mod_one]
theorem cMul_lt (L x n k : Nat) (hx : x < 18446744073709551616) : cMul L x n k < 18446744073709551616 := by
  unfold cMul
  have h := b64_pos k
  have h1 := Nat.mod_lt L h
  have h2 := Nat.mod_lt n h
  have h3 : x * (n % B64 ^ k) ≤ 18446744073709551615 * (n % B64 ^ k) := Nat.mul_le_mul_right _ (by omega)
  generalize B64 ^ k = W at *
  refine Nat.div_lt_of_lt_mul ?_
  omega
theorem cMul_succ (L x n k : Nat) : cMul L x n (k + 1) = (lw L k + x * lw n k + cMul L x n k) / 18446744073709551616 := by
  unfold cMul
  rw [mod_succ, mod_succ, Nat.pow_succ, ← Nat.div_div_eq_div_mul]
  congr 1
  have e : L % B64 ^ k + B64 ^ k * lw L k + x * (n % B64 ^ k + B64 ^ k * lw n k) = (L % B64 ^ k + x * (n % B64 ^ k)) + B64 ^ k * (lw L k + x * lw n k) := by
    rw [Nat.mul_add, Nat.mul_add, Nat.mul_left_comm x]; omega
  rw [e, Nat.add_mul_div_left _ _ (b64_pos k)]
  omega
theorem lw_madd (L x n k : Nat) : lw (L + x * n) k = (lw L k + x * lw n k + cMul L x n k) % 18446744073709551616 := by
  unfold lw cMul
  have h := b64_pos k
  have e : L + x * n = (L % B64 ^ k + x * (n % B64 ^ k)) + B64 ^ k * (L / B64 ^ k + x * (n / B64 ^ k)) := by
    have h1 := Nat.div_add_mod L (B64 ^ k)
    have h2 := Nat.div_add_mod n (B64 ^ k)
    have h3 : x * n = x * (B64 ^ k * (n / B64 ^ k)) + x * (n % B64 ^ k) := by rw [← Nat.mul_add, h2]
    have h4 : x * (B64 ^ k * (n / B64 ^ k)) = B64 ^ k * (x * (n / B64 ^ k)) := Nat.mul_left_comm _ _ _
    rw [Nat.mul_add]; omega
  have e2 : (L + x * n) / B64 ^ k = (L % B64 ^ k + x * (n % B64 ^ k)) / B64 ^ k + (L / B64 ^ k + x * (n / B64 ^ k)) := by
    conv => lhs; rw [e]
    rw [Nat.add_mul_div_left _ _ h]
  rw [e2]
  generalize (L % B64 ^ k + x * (n % B64 ^ k)) / B64 ^ k = u
  generalize L / B64 ^ k = y
  generalize n / B64 ^ k = z
  show (u + (y + x * z)) % 18446744073709551616 = (y % 18446744073709551616 + x * (z % 18446744073709551616) + u) % 18446744073709551616
  have e3 : x * (z % 18446744073709551616) % 18446744073709551616 = x * z % 18446744073709551616 := Nat.mul_mod_mod _ _ _
  generalize x * (z % 18446744073709551616) = s at *
  generalize x * z = t at *
  omega
theorem cMul_all (L x n k : Nat) (hL : L < B64 ^ k) (hn : n < B64 ^ k) : cMul L x n k = (L + x * n) / B64 ^ k := by
  unfold cMul; rw [Nat.mod_eq_of_lt hL, Nat.mod_eq_of_lt hn]
/-- one round of a line: what is told by Mul64 and two times Add64 -/
theorem line_round (p t c : Nat) (hp : p ≤ 18446744073709551615 * 18446744073709551615) (hc : c < 18446744073709551616) :
    (t + (p % 18446744073709551616 + c) % 18446744073709551616) % 18446744073709551616 = (t + p + c) % 18446744073709551616 ∧
    p / 18446744073709551616 + (p % 18446744073709551616 + c) / 18446744073709551616 < 18446744073709551616 ∧
    p / 18446744073709551616 + (p % 18446744073709551616 + c) / 18446744073709551616 + (t + (p % 18446744073709551616 + c) % 18446744073709551616) / 18446744073709551616 = (t + p + c) / 18446744073709551616 := by
  omega
/-- the same with a name for each word -/
theorem line_names (p t c : Nat) (hp : p ≤ 18446744073709551615 * 18446744073709551615) (hc : c < 18446744073709551616) :
    ∃ hi lo lo2 c1 t2 c2 : Nat, p / 18446744073709551616 = hi ∧ p % 18446744073709551616 = lo ∧ (lo + c) % 18446744073709551616 = lo2 ∧ (lo + c) / 18446744073709551616 = c1 ∧ hi + c1 < 18446744073709551616 ∧
      (t + lo2) % 18446744073709551616 = t2 ∧ (t + lo2) / 18446744073709551616 = c2 ∧ t2 = (t + p + c) % 18446744073709551616 ∧ hi + c1 + c2 = (t + p + c) / 18446744073709551616 := by
  obtain ⟨h1, h2, h3⟩ := line_round p t c hp hc
  exact ⟨_, _, _, _, _, _, rfl, rfl, rfl, rfl, h2, rfl, rfl, h1, h3⟩
theorem word_mul_le {x y : Nat} (hx : x < 18446744073709551616) (hy : y < 18446744073709551616) : x * y ≤ 18446744073709551615 * 18446744073709551615 :=
  Nat.mul_le_mul (by omega) (by omega)

/- the words of a product that begins at word i -/
theorem lw_shift_lo (P Q i j : Nat) (h : j < i) : lw (P + B64 ^ i * Q) j = lw P j := by
  rw [← lw_mod _ j i h, Nat.add_mul_mod_self_left, lw_mod _ j i h]
theorem lw_shift_hi (P Q i k : Nat) : lw (P + B64 ^ i * Q) (i + k) = lw (P / B64 ^ i + Q) k := by
  rw [← lw_div, Nat.add_mul_div_left _ _ (b64_pos i)]
theorem lw_top (a n i : Nat) (h : a < B64 ^ n) (hi : n ≤ i) : lw a i = 0 := by
  unfold lw
  rw [Nat.div_eq_of_lt (Nat.lt_of_lt_of_le h (Nat.pow_le_pow_right (by decide) hi)), Nat.zero_mod]
/- a product row by row -/
theorem row_next (a b i : Nat) : a % B64 ^ i * b + B64 ^ i * (lw a i * b) = a % B64 ^ (i + 1) * b := by
  rw [mod_succ, Nat.add_mul, Nat.mul_assoc]
theorem row_lt (a b i : Nat) (hb : b < B64 ^ 4) : a % B64 ^ i * b < B64 ^ (i + 4) := by
  have h := Nat.mod_lt a (b64_pos i)
  rw [Nat.pow_add]
  exact Nat.mul_lt_mul'' h hb
theorem row_top (a b i : Nat) (hb : b < B64 ^ 4) : lw (a % B64 ^ (i + 1) * b) (i + 4) = cMul (a % B64 ^ i * b / B64 ^ i) (lw a i) b 4 := by
  rw [← row_next, lw_shift_hi, lw_madd, lw_top b 4 4 hb (Nat.le_refl _), lw_div, lw_top _ _ _ (row_lt a b i hb) (Nat.le_refl _), Nat.mul_zero, Nat.zero_add]
  exact Nat.mod_eq_of_lt (cMul_lt _ _ _ _ (lw_lt a i))
theorem row_all (a b i : Nat) (hb : b < B64 ^ 4) : mix (a % B64 ^ (i + 1) * b) (a % B64 ^ i * b) (i + 4 + 1) = a % B64 ^ (i + 1) * b := by
  refine mix_all _ _ _ ?_ ?_
  · have := row_lt a b (i + 1) hb
    rwa [show i + 1 + 4 = i + 4 + 1 by omega] at this
  · refine Nat.lt_trans (row_lt a b i hb) (Nat.pow_lt_pow_right (by decide) (by omega))
theorem row_word (a b i k : Nat) : lw (a % B64 ^ i * b) (i + k) = lw (a % B64 ^ i * b / B64 ^ i) k := by rw [lw_div]
theorem row_new (a b i k : Nat) : lw (a % B64 ^ (i + 1) * b) (i + k) = lw (a % B64 ^ i * b / B64 ^ i + lw a i * b) k := by
  rw [← row_next, lw_shift_hi]
theorem row_start (a b i : Nat) : mix (a % B64 ^ (i + 1) * b) (a % B64 ^ i * b) (i + 0) = a % B64 ^ i * b := by
  rw [← row_next, Nat.add_zero]
  generalize a % B64 ^ i * b = V
  unfold mix
  rw [Nat.add_mul_mod_self_left, Nat.mul_comm, Nat.mod_add_div]
theorem row_zero (b : Nat) (a : Nat) : a % B64 ^ 0 * b = 0 := by simp [Nat.mod_one]
/- what stands above 2^256 comes back -/
def foldC (C V : Nat) : Nat := V / B64 ^ 4 * C + V % B64 ^ 4
theorem foldC_mod (P C V : Nat) (h : P + C = B64 ^ 4) : foldC C V % P = V % P := by
  have e : V = foldC C V + P * (V / B64 ^ 4) := by
    have h1 := Nat.div_add_mod V (B64 ^ 4)
    unfold foldC
    rw [← h] at h1 ⊢
    generalize V / (P + C) = q at *
    rw [Nat.add_mul] at h1
    rw [Nat.mul_comm q C]
    omega
  conv => rhs; rw [e]
  rw [Nat.add_mul_mod_self_left]
theorem foldC_lt (C V : Nat) (hC : C < B64 ^ 4) (h : V / B64 ^ 4 ≠ 0) : foldC C V < V := by
  have h1 := Nat.div_add_mod V (B64 ^ 4)
  unfold foldC
  generalize V / B64 ^ 4 = q at *
  have h2 : q * C < B64 ^ 4 * q := by
    rw [Nat.mul_comm]
    exact Nat.mul_lt_mul_of_pos_right hC (by omega)
  omega
theorem or_ne (a b c d : Nat) : (a ||| b ||| c ||| d = 0) ↔ (a = 0 ∧ b = 0 ∧ c = 0 ∧ d = 0) := by
  simp [Nat.or_eq_zero_iff, and_assoc]
theorem top_zero (V : Nat) (h : V < B64 ^ 8) : (lw V 4 ||| lw V 5 ||| lw V 6 ||| lw V 7 = 0) ↔ V / B64 ^ 4 = 0 := by
  rw [or_ne]
  have e : V / B64 ^ 4 < B64 ^ 4 := Nat.div_lt_of_lt_mul (by rw [← Nat.pow_add]; exact h)
  have k0 := lw_div V 4 0
  have k1 := lw_div V 4 1
  have k2 := lw_div V 4 2
  have k3 := lw_div V 4 3
  rw [show 4 + 0 = 4 from rfl] at k0
  rw [show 4 + 1 = 5 from rfl] at k1
  rw [show 4 + 2 = 6 from rfl] at k2
  rw [show 4 + 3 = 7 from rfl] at k3
  rw [← k0, ← k1, ← k2, ← k3]
  generalize V / B64 ^ 4 = D at *
  constructor
  · rintro ⟨h0, h1, h2, h3⟩
    have hm : D % B64 ^ 4 = 0 % B64 ^ 4 := limbs_mod_inj (limbs_ext fun i hi => by
      have : i = 0 ∨ i = 1 ∨ i = 2 ∨ i = 3 := by omega
      rcases this with rfl | rfl | rfl | rfl
      · rw [h0]; decide
      · rw [h1]; decide
      · rw [h2]; decide
      · rw [h3]; decide)
    rw [Nat.mod_eq_of_lt e] at hm
    simpa using hm
  · rintro rfl; decide
theorem words_zero (D : Nat) (e : D < B64 ^ 4) : (lw D 0 ||| lw D 1 ||| lw D 2 ||| lw D 3 = 0) ↔ D = 0 := by
  rw [or_ne]
  constructor
  · rintro ⟨h0, h1, h2, h3⟩
    have hm : D % B64 ^ 4 = 0 % B64 ^ 4 := limbs_mod_inj (limbs_ext fun i hi => by
      have : i = 0 ∨ i = 1 ∨ i = 2 ∨ i = 3 := by omega
      rcases this with rfl | rfl | rfl | rfl
      · rw [h0]; decide
      · rw [h1]; decide
      · rw [h2]; decide
      · rw [h3]; decide)
    rw [Nat.mod_eq_of_lt e] at hm
    simpa using hm
  · rintro rfl; decide
/- the two words above a line -/
theorem line_top (V x n : Nat) (hn : n < B64 ^ 4) (hV : V + x * n < B64 ^ 6) (hVV : V < B64 ^ 6) :
    (lw V 4 + cMul V x n 4) % 18446744073709551616 = lw (V + x * n) 4 ∧ lw V 5 + (lw V 4 + cMul V x n 4) / 18446744073709551616 = lw (V + x * n) 5 ∧ lw V 5 + (lw V 4 + cMul V x n 4) / 18446744073709551616 < 18446744073709551616 := by
  have z4 : lw n 4 = 0 := lw_top n 4 4 hn (by decide)
  have z5 : lw n 5 = 0 := lw_top n 4 5 hn (by decide)
  have h4 := lw_madd V x n 4
  have h5 := lw_madd V x n 5
  have c5 := cMul_succ V x n 4
  have c6 := cMul_succ V x n 5
  rw [z4, Nat.mul_zero, Nat.add_zero] at h4 c5
  rw [z5, Nat.mul_zero, Nat.add_zero] at h5 c6
  have hc6 : cMul V x n 6 = 0 := by
    rw [cMul_all V x n 6 hVV (Nat.lt_trans hn (by decide))]
    exact Nat.div_eq_of_lt hV
  rw [hc6] at c6
  rw [c5] at h5 c6
  try rw [Nat.add_zero] at h5
  try rw [Nat.add_zero] at c6
  have : lw V 5 + (lw V 4 + cMul V x n 4) / 18446744073709551616 < 18446744073709551616 := by omega
  exact ⟨h4.symm, by rw [h5, Nat.mod_eq_of_lt this], this⟩
theorem word0 (V : Nat) : lw V 0 = V % 18446744073709551616 := by simp [lw]

/-- a step of Montgomery's product -/
def mstep (M neg b T x : Nat) : Nat := (T + x * b + ((T + x * b) % 18446744073709551616 * neg % 18446744073709551616) * M) / 18446744073709551616
def montT (M neg b a : Nat) : Nat → Nat
  | 0 => 0
  | k + 1 => mstep M neg b (montT M neg b a k) (lw a k)
theorem mstep_exact (M neg b T x : Nat) (hneg : (M * neg + 1) % 18446744073709551616 = 0) :
    mstep M neg b T x * 18446744073709551616 = T + x * b + ((T + x * b) % 18446744073709551616 * neg % 18446744073709551616) * M := by
  unfold mstep
  generalize hV : T + x * b = V
  generalize hm : V % 18446744073709551616 * neg % 18446744073709551616 = m
  have key : (V + m * M) % 18446744073709551616 = 0 := by
    have h1 : (m * M) % 18446744073709551616 = (V * neg * M) % 18446744073709551616 := by
      rw [← hm, Nat.mod_mul_mod, Nat.mul_assoc, Nat.mod_mul_mod, ← Nat.mul_assoc]
    have h2 : V + V * neg * M = V * (M * neg + 1) := by rw [Nat.mul_add, Nat.mul_one, Nat.mul_assoc, Nat.mul_comm neg, Nat.add_comm]
    rw [Nat.add_mod, h1, ← Nat.add_mod, h2, Nat.mul_mod, hneg, Nat.mul_zero, Nat.zero_mod]
  have := Nat.div_add_mod (V + m * M) 18446744073709551616
  rw [key, Nat.add_zero, Nat.mul_comm] at this
  exact this
theorem mstep_lt (M neg b T x : Nat) (hM : 0 < M) (hT : T < b + M) (hx : x < 18446744073709551616) : mstep M neg b T x < b + M := by
  unfold mstep
  refine Nat.div_lt_of_lt_mul ?_
  generalize hm : (T + x * b) % 18446744073709551616 * neg % 18446744073709551616 = m
  have hm' : m < 18446744073709551616 := by rw [← hm]; exact Nat.mod_lt _ (by decide)
  have h1 : x * b ≤ 18446744073709551615 * b := Nat.mul_le_mul_right _ (by omega)
  have h2 : m * M ≤ 18446744073709551615 * M := Nat.mul_le_mul_right _ (by omega)
  omega
theorem montT_lt (M neg b a k : Nat) (hM : 0 < M) : montT M neg b a k < b + M := by
  induction k with
  | zero => show 0 < _; omega
  | succ k ih => exact mstep_lt _ _ _ _ _ hM ih (lw_lt a k)
theorem montT_mod (M neg b a k : Nat) (hneg : (M * neg + 1) % 18446744073709551616 = 0) : montT M neg b a k * B64 ^ k % M = a % B64 ^ k * b % M := by
  induction k with
  | zero => simp [montT, Nat.mod_one]
  | succ k ih =>
    show mstep _ _ _ _ _ * B64 ^ (k + 1) % M = _
    rw [← row_next, Nat.pow_succ, Nat.mul_comm (B64 ^ k), ← Nat.mul_assoc, mstep_exact M neg b _ _ hneg]
    generalize (montT M neg b a k + lw a k * b) % 18446744073709551616 * neg % 18446744073709551616 = m
    have e : (montT M neg b a k + lw a k * b + m * M) * B64 ^ k = montT M neg b a k * B64 ^ k + B64 ^ k * (lw a k * b) + M * (m * B64 ^ k) := by
      rw [Nat.add_mul, Nat.add_mul, Nat.mul_comm (lw a k * b), Nat.mul_right_comm m, Nat.mul_comm (m * B64 ^ k)]
    rw [e, Nat.add_mul_mod_self_left, Nat.add_mod, ih, ← Nat.add_mod]
/-- what a product of Montgomery's is -/
theorem mont_value (M neg Ri a b : Nat) (hM : 0 < M) (ha : a < B64 ^ 4) (hneg : (M * neg + 1) % 18446744073709551616 = 0) (hRi : B64 ^ 4 * Ri % M = 1 % M) :
    montT M neg b a 4 % M = a * b * Ri % M := by
  have h := montT_mod M neg b a 4 hneg
  rw [Nat.mod_eq_of_lt ha] at h
  generalize montT M neg b a 4 = T at *
  have h1 : T * B64 ^ 4 * Ri % M = a * b * Ri % M := by rw [Nat.mul_mod, h, ← Nat.mul_mod]
  rw [← h1, Nat.mul_assoc, Nat.mul_mod, hRi, ← Nat.mul_mod, Nat.mul_one]
theorem mod_of_lt2 (T M : Nat) (h : T < 2 * M) : T % M = if T < M then T else T - M := by
  split
  · rename_i h'; exact Nat.mod_eq_of_lt h'
  · rename_i h'; rw [Nat.mod_eq_sub_mod (by omega), Nat.mod_eq_of_lt (by omega)]
end Mvp
