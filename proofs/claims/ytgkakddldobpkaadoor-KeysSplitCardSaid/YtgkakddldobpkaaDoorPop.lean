/- Plain: how many bits are set, in the ways of math/bits; the lowest bit. -/
namespace Mvk
/-- ones among the lowest n bits -/
def pcn : Nat → Nat → Nat
  | 0, _ => 0
  | n + 1, x => x % 2 + pcn n (x / 2)
theorem pcn_le : ∀ (n x : Nat), pcn n x ≤ n
  | 0, _ => Nat.le_refl _
  | n + 1, x => by have := pcn_le n (x / 2); simp only [pcn]; omega
theorem pcn_add : ∀ (a b x : Nat), pcn (a + b) x = pcn a x + pcn b (x / 2 ^ a)
  | 0, b, x => by simp [pcn]
  | a + 1, b, x => by
    rw [show a + 1 + b = (a + b) + 1 by omega]
    simp only [pcn]
    rw [pcn_add a b (x / 2), Nat.div_div_eq_div_mul, show 2 * 2 ^ a = 2 ^ (a + 1) by rw [Nat.pow_succ]; omega]
    omega
theorem pcn_zero : ∀ (n : Nat), pcn n 0 = 0
  | 0 => rfl
  | n + 1 => by simp [pcn, pcn_zero n]
theorem pcn_small (n m x : Nat) (h : x < 2 ^ n) : pcn (n + m) x = pcn n x := by
  rw [pcn_add, Nat.div_eq_of_lt h, pcn_zero, Nat.add_zero]
theorem pcn_pow : ∀ (n k : Nat), k < n → pcn n (2 ^ k) = 1
  | 0, k, h => by omega
  | n + 1, 0, _ => by simp [pcn, pcn_zero]
  | n + 1, k + 1, h => by
    have e : 2 ^ (k + 1) = 2 * 2 ^ k := by rw [Nat.pow_succ]; omega
    simp only [pcn]
    rw [show 2 ^ (k + 1) / 2 = 2 ^ k by omega, pcn_pow n k (by omega)]; omega

theorem and_digits (k a r m s : Nat) (hr : r < 2 ^ k) (hs : s < 2 ^ k) : (2 ^ k * a + r) &&& (2 ^ k * m + s) = 2 ^ k * (a &&& m) + (r &&& s) := by
  apply Nat.eq_of_testBit_eq
  intro i
  rw [Nat.testBit_and, Nat.testBit_two_pow_mul_add a hr, Nat.testBit_two_pow_mul_add m hs, Nat.testBit_two_pow_mul_add (a &&& m) (Nat.and_lt_two_pow r hs)]
  split <;> rw [Nat.testBit_and]
def m1 : Nat → Nat
  | 0 => 0
  | n + 1 => 4 * m1 n + 1
def m2 : Nat → Nat
  | 0 => 0
  | n + 1 => 16 * m2 n + 3
def m3 : Nat → Nat
  | 0 => 0
  | n + 1 => 256 * m3 n + 15
def T1 : Nat → Nat → Nat
  | 0, _ => 0
  | n + 1, x => 4 * T1 n (x / 4) + pcn 2 x
def T2 : Nat → Nat → Nat
  | 0, _ => 0
  | n + 1, x => 16 * T2 n (x / 16) + pcn 4 x
def T3 : Nat → Nat → Nat
  | 0, _ => 0
  | n + 1, x => 256 * T3 n (x / 256) + pcn 8 x
theorem B1 : ∀ (n x : Nat), (x / 2 &&& m1 n) + (x &&& m1 n) = T1 n x
  | 0, x => by simp [m1, T1]
  | n + 1, x => by
    have ih := B1 n (x / 4)
    have h1 : x / 2 = 2 ^ 2 * (x / 4 / 2) + x / 2 % 4 := by omega
    have h2 : x = 2 ^ 2 * (x / 4) + x % 4 := by omega
    have a1 : (x / 2 &&& m1 (n + 1)) = 4 * (x / 4 / 2 &&& m1 n) + x / 2 % 2 := by
      rw [h1, show m1 (n + 1) = 2 ^ 2 * m1 n + 1 from rfl, and_digits 2 _ _ _ _ (by omega) (by omega), Nat.and_one_is_mod]; omega
    have a2 : (x &&& m1 (n + 1)) = 4 * (x / 4 &&& m1 n) + x % 2 := by
      rw [show (x &&& m1 (n + 1)) = (2 ^ 2 * (x / 4) + x % 4) &&& m1 (n + 1) by rw [← h2], show m1 (n + 1) = 2 ^ 2 * m1 n + 1 from rfl, and_digits 2 _ _ _ _ (by omega) (by omega), Nat.and_one_is_mod]; omega
    rw [a1, a2]
    simp only [T1, pcn, ← ih]; omega
theorem and3 (r : Nat) : r &&& 3 = r % 4 := Nat.and_two_pow_sub_one_eq_mod r 2
theorem and15 (r : Nat) : r &&& 15 = r % 16 := Nat.and_two_pow_sub_one_eq_mod r 4
theorem T1_two (n x : Nat) : T1 (2 * (n + 1)) x = 16 * T1 (2 * n) (x / 16) + 4 * pcn 2 (x / 4) + pcn 2 x := by
  rw [show 2 * (n + 1) = 2 * n + 1 + 1 by omega]
  simp only [T1]
  rw [show x / 4 / 4 = x / 16 by omega]; omega
theorem T2_two (n x : Nat) : T2 (2 * (n + 1)) x = 256 * T2 (2 * n) (x / 256) + 16 * pcn 4 (x / 16) + pcn 4 x := by
  rw [show 2 * (n + 1) = 2 * n + 1 + 1 by omega]
  simp only [T2]
  rw [show x / 16 / 16 = x / 256 by omega]; omega
theorem B2 : ∀ (n x : Nat), (T1 (2 * n) x / 4 &&& m2 n) + (T1 (2 * n) x &&& m2 n) = T2 n x
  | 0, x => by simp [m2, T2]
  | n + 1, x => by
    have ih := B2 n (x / 16)
    have ha := pcn_le 2 (x / 4)
    have hb := pcn_le 2 x
    have hp : pcn 4 x = pcn 2 x + pcn 2 (x / 4) := pcn_add 2 2 x
    rw [T1_two]
    generalize T1 (2 * n) (x / 16) = q at *
    generalize pcn 2 (x / 4) = a at *
    generalize pcn 2 x = b at *
    have h1 : (16 * q + 4 * a + b) / 4 = 2 ^ 4 * (q / 4) + (4 * (q % 4) + a) := by omega
    have h2 : 16 * q + 4 * a + b = 2 ^ 4 * q + (4 * a + b) := by omega
    rw [h1, h2, show m2 (n + 1) = 2 ^ 4 * m2 n + 3 from rfl, and_digits 4 _ _ _ _ (by omega) (by omega), and_digits 4 _ _ _ _ (by omega) (by omega), and3, and3]
    simp only [T2, hp, ← ih]; omega
theorem T2_mod : ∀ (n x : Nat), T2 n x % 16 ≤ 4
  | 0, x => by simp [T2]
  | n + 1, x => by have := pcn_le 4 x; simp only [T2]; omega
theorem B3 : ∀ (n x : Nat), (T2 (2 * n) x / 16 + T2 (2 * n) x) &&& m3 n = T3 n x
  | 0, x => by simp [m3, T3]
  | n + 1, x => by
    have ih := B3 n (x / 256)
    have ha := pcn_le 4 (x / 16)
    have hb := pcn_le 4 x
    have hq := T2_mod (2 * n) (x / 256)
    have hp : pcn 8 x = pcn 4 x + pcn 4 (x / 16) := pcn_add 4 4 x
    rw [T2_two]
    generalize T2 (2 * n) (x / 256) = q at *
    generalize pcn 4 (x / 16) = a at *
    generalize pcn 4 x = b at *
    have h1 : (256 * q + 16 * a + b) / 16 + (256 * q + 16 * a + b) = 2 ^ 8 * (q / 16 + q) + (16 * (q % 16) + 16 * a + a + b) := by omega
    rw [h1, show m3 (n + 1) = 2 ^ 8 * m3 n + 15 from rfl, and_digits 8 _ _ _ _ (by omega) (by omega), and15]
    simp only [T3, hp, ← ih]; omega
theorem T3_8 (x : Nat) : T3 8 x = pcn 8 x + 256 * (pcn 8 (x / 256) + 256 * (pcn 8 (x / 65536) + 256 * (pcn 8 (x / 16777216) + 256 * (pcn 8 (x / 4294967296) + 256 * (pcn 8 (x / 1099511627776) + 256 * (pcn 8 (x / 281474976710656) + 256 * pcn 8 (x / 72057594037927936))))))) := by
  simp only [T3, Nat.div_div_eq_div_mul, Nat.reduceMul, Nat.mul_zero, Nat.zero_add, Nat.add_comm]
theorem pcn_64 (x : Nat) : pcn 64 x = pcn 8 x + pcn 8 (x / 256) + pcn 8 (x / 65536) + pcn 8 (x / 16777216) + pcn 8 (x / 4294967296) + pcn 8 (x / 1099511627776) + pcn 8 (x / 281474976710656) + pcn 8 (x / 72057594037927936) := by
  rw [show 64 = 8 + (8 + (8 + (8 + (8 + (8 + (8 + 8)))))) from rfl]
  simp only [pcn_add 8, Nat.div_div_eq_div_mul]
  simp only [show (2 : Nat) ^ 8 = 256 from rfl, show 256 * 256 = 65536 from rfl, show 65536 * 256 = 16777216 from rfl, show 16777216 * 256 = 4294967296 from rfl, show 4294967296 * 256 = 1099511627776 from rfl, show 1099511627776 * 256 = 281474976710656 from rfl, show 281474976710656 * 256 = 72057594037927936 from rfl]
  omega
theorem fold_bytes (a b c d e f g h : Nat) (ha : a ≤ 8) (hb : b ≤ 8) (hc : c ≤ 8) (hd : d ≤ 8) (he : e ≤ 8) (hf : f ≤ 8) (hg : g ≤ 8) (hh : h ≤ 8) (w w1 w2 w3 : Nat)
    (hw : w = a + 256 * (b + 256 * (c + 256 * (d + 256 * (e + 256 * (f + 256 * (g + 256 * h))))))) (h1 : w1 = w + w / 256) (h2 : w2 = w1 + w1 / 65536) (h3 : w3 = w2 + w2 / 4294967296) :
    w3 % 128 = a + b + c + d + e + f + g + h ∧ w3 < 18446744073709551616 := by
  obtain ⟨r6, e6⟩ : ∃ r, r = g + 256 * h := ⟨_, rfl⟩
  rw [← e6] at hw
  obtain ⟨r5, e5⟩ : ∃ r, r = f + 256 * r6 := ⟨_, rfl⟩
  rw [← e5] at hw
  obtain ⟨r4, e4⟩ : ∃ r, r = e + 256 * r5 := ⟨_, rfl⟩
  rw [← e4] at hw
  obtain ⟨r3, e3⟩ : ∃ r, r = d + 256 * r4 := ⟨_, rfl⟩
  rw [← e3] at hw
  obtain ⟨r2, e2⟩ : ∃ r, r = c + 256 * r3 := ⟨_, rfl⟩
  rw [← e2] at hw
  obtain ⟨r1, e1⟩ : ∃ r, r = b + 256 * r2 := ⟨_, rfl⟩
  rw [← e1] at hw
  have b6 : r6 ≤ 2056 := by omega
  have b5 : r5 ≤ 526344 := by omega
  have b4 : r4 ≤ 134744072 := by omega
  have b3 : r3 ≤ 34494482440 := by omega
  have b2 : r2 ≤ 8830587504648 := by omega
  have b1 : r1 ≤ 2260630401189896 := by omega
  have b0 : w ≤ 578721382704613384 := by omega
  have k1 : w1 = w + r1 := by rw [h1]; clear h1 h2 h3 e1 e2 e3 e4 e5 e6; omega
  have k2 : w1 / 65536 = r2 + r3 := by
    rw [k1]
    have x0 : w = a + 256 * b + 65536 * r2 := by rw [hw, e1]; clear h1 h2 h3 k1 e1 e2 e3 e4 e5 e6; omega
    have x1 : r1 = b + 256 * c + 65536 * r3 := by rw [e1, e2]; clear h1 h2 h3 k1 e1 e2 e3 e4 e5 e6; omega
    rw [x0, x1]
    clear h1 h2 h3 k1 e1 e2 e3 e4 e5 e6 hw x0 x1 b0 b1
    omega
  have k3 : w2 = w + r1 + r2 + r3 := by rw [h2, k2, k1]; clear h1 h2 h3 k1 k2 e1 e2 e3 e4 e5 e6; omega
  have k4 : w2 / 4294967296 = r4 + r5 + r6 + h := by
    rw [k3]
    have x0 : w = a + 256 * b + 65536 * c + 16777216 * d + 4294967296 * r4 := by rw [hw, e1, e2, e3]; clear h1 h2 h3 k1 k2 k3 e1 e2 e3 e4 e5 e6 hw; omega
    have x1 : r1 = b + 256 * c + 65536 * d + 16777216 * e + 4294967296 * r5 := by rw [e1, e2, e3, e4]; clear h1 h2 h3 k1 k2 k3 e1 e2 e3 e4 e5 e6 hw; omega
    have x2 : r2 = c + 256 * d + 65536 * e + 16777216 * f + 4294967296 * r6 := by rw [e2, e3, e4, e5]; clear h1 h2 h3 k1 k2 k3 e1 e2 e3 e4 e5 e6 hw; omega
    have x3 : r3 = d + 256 * e + 65536 * f + 16777216 * g + 4294967296 * h := by rw [e3, e4, e5, e6]; clear h1 h2 h3 k1 k2 k3 e1 e2 e3 e4 e5 e6 hw; omega
    rw [x0, x1, x2, x3]
    clear h1 h2 h3 k1 k2 k3 e1 e2 e3 e4 e5 e6 hw x0 x1 x2 x3 b0 b1 b2 b3 b4 b5 b6
    omega
  have k5 : w3 = (a + b + c + d + e + f + g + h) + 256 * (r1 + r2 + r3 + r4 + r5 + r6 + h) := by
    rw [h3, k4, k3, hw]
    clear h1 h2 h3 k1 k2 k3 k4 hw b0 b1 b2 b3 b4 b5 b6
    omega
  refine ⟨?_, ?_⟩
  · rw [k5]
    clear h1 h2 h3 k1 k2 k3 k4 k5 hw e1 e2 e3 e4 e5 e6 b0 b1 b2 b3 b4 b5 b6
    omega
  · clear h1 h2 h3 k1 k2 k3 k4 hw e1 e2 e3 e4 e5 e6
    omega
/-- math/bits.OnesCount64, step by step -/
theorem ones64 (x : Nat) : let y := (x / 2 &&& 6148914691236517205) + (x &&& 6148914691236517205)
    let z := (y / 4 &&& 3689348814741910323) + (y &&& 3689348814741910323)
    let w := (z / 16 + z) &&& 1085102592571150095
    let w1 := w + w / 256
    let w2 := w1 + w1 / 65536
    let w3 := w2 + w2 / 4294967296
    w3 % 128 = pcn 64 x ∧ y < 18446744073709551616 ∧ z < 18446744073709551616 ∧ z / 16 + z < 18446744073709551616 ∧ w < 18446744073709551616 ∧ w1 < 18446744073709551616 ∧ w2 < 18446744073709551616 ∧ w3 < 18446744073709551616 := by
  intro y z w w1 w2 w3
  have hy : y = T1 (2 * 16) x := B1 32 x
  have hz : z = T2 (2 * 8) x := by
    show (y / 4 &&& m2 16) + (y &&& m2 16) = _
    rw [hy]; exact B2 16 x
  have hw : w = T3 8 x := by
    show (z / 16 + z) &&& m3 8 = _
    rw [hz]; exact B3 8 x
  have hp := pcn_le 8
  have k := fold_bytes _ _ _ _ _ _ _ _ (hp x) (hp (x / 256)) (hp (x / 65536)) (hp (x / 16777216)) (hp (x / 4294967296)) (hp (x / 1099511627776)) (hp (x / 281474976710656)) (hp (x / 72057594037927936)) w w1 w2 w3 (by rw [hw]; exact T3_8 x) rfl rfl rfl
  have l1 : ∀ a b : Nat, a &&& b ≤ b := fun a b => Nat.and_le_right
  have y1 := l1 (x / 2) 6148914691236517205
  have y2 := l1 x 6148914691236517205
  have z1 := l1 (y / 4) 3689348814741910323
  have z2 := l1 y 3689348814741910323
  have hyd : y = (x / 2 &&& 6148914691236517205) + (x &&& 6148914691236517205) := rfl
  have hzd : z = (y / 4 &&& 3689348814741910323) + (y &&& 3689348814741910323) := rfl
  have hw1 : w ≤ 1085102592571150095 := Nat.and_le_right
  have h1 : w1 = w + w / 256 := rfl
  have h2 : w2 = w1 + w1 / 65536 := rfl
  refine ⟨by rw [k.1, pcn_64], by omega, by omega, by omega, by omega, by omega, by omega, k.2⟩

/-- the lowest bit -/
theorem odd_part (y : Nat) : 0 < y → ∃ t j, y = 2 ^ t * (2 * j + 1) := by
  induction y using Nat.strongRecOn with
  | _ y ih =>
    intro h
    by_cases hy : y % 2 = 1
    · exact ⟨0, y / 2, by simp; omega⟩
    · obtain ⟨t, j, e⟩ := ih (y / 2) (by omega) (by omega)
      exact ⟨t + 1, j, by rw [Nat.pow_succ, Nat.mul_comm (2 ^ t) 2, Nat.mul_assoc, ← e]; omega⟩
theorem low_pred (k j : Nat) : 2 ^ k * (2 * j + 1) - 1 = 2 ^ k * (2 * j) + (2 ^ k - 1) := by
  have := Nat.two_pow_pos k
  rw [Nat.mul_add, Nat.mul_one]; omega
theorem clear_low (k j : Nat) : 2 ^ k * (2 * j + 1) &&& (2 ^ k * (2 * j + 1) - 1) = 2 ^ k * (2 * j) := by
  have hp := Nat.two_pow_pos k
  have := and_digits k (2 * j + 1) 0 (2 * j) (2 ^ k - 1) hp (by omega)
  rw [low_pred, show 2 ^ k * (2 * j + 1) = 2 ^ k * (2 * j + 1) + 0 from rfl, this, Nat.zero_and, Nat.add_zero]
  have e : (2 * j + 1) &&& (2 * j) = 2 * j := by
    have := and_digits 1 j 1 j 0 (by decide) (by decide)
    rw [Nat.and_self, Nat.and_zero] at this
    simpa using this
  rw [e]
theorem only_low (n k j : Nat) (h : 2 ^ k * (2 * j + 1) < 2 ^ n) : 2 ^ k * (2 * j + 1) &&& (2 ^ n - 2 ^ k * (2 * j + 1)) = 2 ^ k := by
  have hp := Nat.two_pow_pos k
  have hx : 0 < 2 ^ k * (2 * j + 1) := Nat.mul_pos hp (by omega)
  apply Nat.eq_of_testBit_eq
  intro i
  have e : 2 ^ n - 2 ^ k * (2 * j + 1) = 2 ^ n - ((2 ^ k * (2 * j + 1) - 1) + 1) := by omega
  rw [Nat.testBit_and, e, Nat.testBit_two_pow_sub_succ (by omega), low_pred, Nat.testBit_two_pow_mul_add (2 * j) (show 2 ^ k - 1 < 2 ^ k by omega)]
  rw [show 2 ^ k * (2 * j + 1) = 2 ^ k * (2 * j + 1) + 0 from rfl, Nat.testBit_two_pow_mul_add (2 * j + 1) hp, Nat.testBit_two_pow]
  by_cases h1 : i < k
  · simp [h1, show ¬ k = i by omega]
  · rw [if_neg h1, if_neg h1]
    by_cases h2 : i = k
    · subst h2
      have hn : i < n := by
        rcases Nat.lt_or_ge i n with h | h'
        · exact h
        · have : 2 ^ n ≤ 2 ^ i := Nat.pow_le_pow_right (by decide) h'
          have : 2 ^ i ≤ 2 ^ i * (2 * j + 1) := Nat.le_mul_of_pos_right _ (by omega)
          omega
      simp [hn, Nat.testBit_zero]
    · obtain ⟨d, hd⟩ : ∃ d, i - k = d + 1 := ⟨i - k - 1, by omega⟩
      rw [hd, Nat.testBit_succ, Nat.testBit_succ, show (2 * j + 1) / 2 = j by omega, show 2 * j / 2 = j by omega]
      cases j.testBit d <;> simp [show ¬ k = i by omega]
end Mvk
