/- Plain: elements: a number times 2^256 modulo M. -/
import Derived.Test.YtmegaegedlbckaaMd
namespace Mvp
def elN (m : Md) (x : Nat) : Nat := x * B64 ^ 4 % m.M
theorem el_lt (m : Md) (h : m.Ok) (x : Nat) : elN m x < m.M := Nat.mod_lt _ (by have := h.one; omega)
theorem el_lt4 (m : Md) (h : m.Ok) (x : Nat) : elN m x < B64 ^ 4 := Nat.lt_trans (el_lt m h x) h.lt
theorem el_one (m : Md) : B64 ^ 4 % m.M = elN m 1 := by rw [elN, Nat.one_mul]
theorem el_zero (m : Md) : elN m 0 = 0 := by rw [elN, Nat.zero_mul, Nat.zero_mod]
theorem el_mod (m : Md) (x : Nat) : elN m (x % m.M) = elN m x := by rw [elN, elN, Nat.mod_mul_mod]
theorem el_congr (m : Md) {x y : Nat} (h : x % m.M = y % m.M) : elN m x = elN m y := by rw [← el_mod, h, el_mod]
theorem el_Ri (m : Md) (h : m.Ok) (x : Nat) : x * B64 ^ 4 * m.Ri % m.M = x % m.M := by
  rw [Nat.mul_assoc, Nat.mul_mod, h.inv, Nat.mul_one, Nat.mod_mod]
theorem mulmod_help (a b R Ri M : Nat) : (a * R % M) * (b * R % M) * Ri % M = (a * b * R) * R * Ri % M := by
  rw [← Nat.mod_mul_mod (a * R % M * (b * R % M)), ← Nat.mul_mod, Nat.mod_mul_mod, Nat.mul_mul_mul_comm, ← Nat.mul_assoc (a * b)]
theorem tomod_help (n R Ri M : Nat) : n * (R * R % M) * Ri % M = n * R * R * Ri % M := by
  rw [← Nat.mod_mul_mod (n * (R * R % M)), Nat.mul_mod_mod, Nat.mod_mul_mod, ← Nat.mul_assoc]
theorem el_mul (m : Md) (h : m.Ok) (x y : Nat) : elN m x * elN m y * m.Ri % m.M = elN m (x * y) := by
  unfold elN
  rw [mulmod_help, el_Ri m h]
theorem el_to (m : Md) (h : m.Ok) (n : Nat) : n * (B64 ^ 4 * B64 ^ 4 % m.M) * m.Ri % m.M = elN m n := by
  rw [tomod_help, el_Ri m h, elN]
theorem el_from (m : Md) (h : m.Ok) (x : Nat) : elN m x * 1 * m.Ri % m.M = x % m.M := by
  rw [Nat.mul_one, elN, Nat.mod_mul_mod, el_Ri m h]
theorem el_add (m : Md) (x y : Nat) : (elN m x + elN m y) % m.M = elN m (x + y) := by
  rw [elN, elN, elN, ← Nat.add_mod, Nat.add_mul]
theorem el_inj (m : Md) (h : m.Ok) {x y : Nat} (e : elN m x = elN m y) : x % m.M = y % m.M := by
  rw [← el_from m h x, e, el_from m h y]
theorem el_sub (m : Md) (h : m.Ok) (x y : Nat) : (elN m x + m.M - elN m y) % m.M = elN m (x + (m.M - y % m.M)) := by
  have hM : 0 < m.M := by have := h.one; omega
  have hy := el_lt m h y
  have h1 : (elN m x + m.M - elN m y) + elN m y = elN m x + m.M := by omega
  have hym := Nat.mod_lt y hM
  -- both give elN x when elN y is added
  have e1 : ((elN m x + m.M - elN m y) % m.M + elN m y) % m.M = elN m x % m.M := by
    rw [Nat.mod_add_mod, h1, Nat.add_mod_right]
  have e2 : (elN m (x + (m.M - y % m.M)) + elN m y) % m.M = elN m x % m.M := by
    rw [el_add, Nat.mod_eq_of_lt (el_lt m h x)]
    refine el_congr m ?_
    rw [Nat.add_assoc, Nat.add_mod x, Nat.add_comm _ y, ← Nat.mod_add_mod y, show y % m.M + (m.M - y % m.M) = m.M by omega, Nat.mod_self, Nat.add_zero, Nat.mod_mod]
  have a1 := Nat.mod_lt (elN m x + m.M - elN m y) hM
  have a2 := el_lt m h (x + (m.M - y % m.M))
  generalize (elN m x + m.M - elN m y) % m.M = p at *
  generalize elN m (x + (m.M - y % m.M)) = q at *
  generalize elN m y = r at *
  have e3 : (p + r) % m.M = (q + r) % m.M := by rw [e1, e2]
  have l1 := Nat.div_add_mod (p + r) m.M
  have l2 := Nat.div_add_mod (q + r) m.M
  rcases Nat.lt_or_ge (p + r) m.M with h1 | h1 <;> rcases Nat.lt_or_ge (q + r) m.M with h2 | h2
  · rw [Nat.mod_eq_of_lt h1, Nat.mod_eq_of_lt h2] at e3; omega
  · rw [Nat.mod_eq_of_lt h1, Nat.mod_eq_sub_mod h2, Nat.mod_eq_of_lt (by omega)] at e3; omega
  · rw [Nat.mod_eq_of_lt h2, Nat.mod_eq_sub_mod h1, Nat.mod_eq_of_lt (by omega)] at e3; omega
  · rw [Nat.mod_eq_sub_mod h1, Nat.mod_eq_sub_mod h2, Nat.mod_eq_of_lt (by omega), Nat.mod_eq_of_lt (by omega)] at e3; omega
theorem add_carry (a b : Nat) (ha : a < B64 ^ 4) (hb : b < B64 ^ 4) : cAdd a b 4 = lw (a + b) 4 := by
  rw [cAdd_all a b 4 ha hb]
  unfold lw
  have h0 := b64_pos 4
  have : (a + b) / B64 ^ 4 < 2 := Nat.div_lt_of_lt_mul (by omega)
  exact (Nat.mod_eq_of_lt (Nat.lt_trans this (by decide))).symm
theorem sub_words_lt (a b M : Nat) (ha : a < M) (hb : b < M) (hM : M < B64 ^ 4) (h : a < b) : Go.Mv.cw 4 ((a + M - b) % M) = Go.Mv.cw 4 (a + B64 ^ 4 - b + M) := by
  rw [Nat.mod_eq_of_lt (by omega), ← Go.Mv.cw_mod 4 (a + B64 ^ 4 - b + M)]
  rw [show a + B64 ^ 4 - b + M = (a + M - b) + B64 ^ 4 by omega, Nat.add_mod_right, Go.Mv.cw_mod]
theorem sub_words_ge (a b M : Nat) (ha : a < M) (hb : b < M) (h : ¬ a < b) : Go.Mv.cw 4 ((a + M - b) % M) = Go.Mv.cw 4 (a + B64 ^ 4 - b) := by
  have _h := hb
  rw [show a + M - b = (a - b) + M by omega, Nat.add_mod_right, Nat.mod_eq_of_lt (by omega), ← Go.Mv.cw_mod 4 (a + B64 ^ 4 - b), show a + B64 ^ 4 - b = (a - b) + B64 ^ 4 by omega, Nat.add_mod_right, Go.Mv.cw_mod]
end Mvp
