/- Letters, plain: bits that come in, digits that go out. -/
import Derived.Test.YtgkakddldobpkaaLet1
namespace Mvl
/-- the whole digits of d bits of a number of N bits, from the highest on -/
def stream (d N u : Nat) : List Nat := digs (2 ^ d) (N / d) (u / 2 ^ (N % d))
theorem stream_len (d N u : Nat) : (stream d N u).length = N / d := digs_len _ _ _
theorem stream_get (d N u j : Nat) (_hd : 0 < d) (h : j < N / d) : (stream d N u)[j]? = some (u / 2 ^ (N - d * (j + 1)) % 2 ^ d) := by
  unfold stream
  rw [digs_get _ _ _ _ h, Nat.div_div_eq_div_mul, ← Nat.pow_mul, ← Nat.pow_add]
  have h1 := Nat.div_add_mod N d
  have e : N % d + d * (N / d - 1 - j) = N - d * (j + 1) := by
    obtain ⟨k, hk⟩ : ∃ k, N / d = j + 1 + k := ⟨N / d - (j + 1), by omega⟩
    rw [hk] at h1 ⊢
    have e1 : d * (j + 1 + k) = d * (j + 1) + d * k := Nat.mul_add _ _ _
    have e2 : j + 1 + k - 1 - j = k := by omega
    rw [e2]; omega
  rw [e]
theorem stream_pre (d N u k x : Nat) (hd : 0 < d) (hx : x < 2 ^ k) : (stream d (N + k) (u * 2 ^ k + x)).take (N / d) = stream d N u := by
  have hle : N / d ≤ (N + k) / d := Nat.div_le_div_right (by omega)
  apply List.ext_getElem?
  intro j
  rcases Nat.lt_or_ge j (N / d) with h | h
  · rw [List.getElem?_take, if_pos h, stream_get d _ _ j hd (by omega), stream_get d _ _ j hd h]
    have h1 : d * (j + 1) ≤ N := by
      have := Nat.mul_le_mul_left d (show j + 1 ≤ N / d by omega)
      exact Nat.le_trans this (Nat.mul_div_le N d)
    have e : N + k - d * (j + 1) = k + (N - d * (j + 1)) := by omega
    rw [e, Nat.pow_add, ← Nat.div_div_eq_div_mul, Nat.mul_comm u, Nat.mul_add_div (Nat.two_pow_pos k), Nat.div_eq_of_lt hx, Nat.add_zero]
  · rw [List.getElem?_eq_none (by rw [List.length_take, stream_len]; omega), List.getElem?_eq_none (by rw [stream_len]; exact h)]
/-- one digit more -/
theorem stream_step (d N u j : Nat) (hd : 0 < d) (h : j < N / d) : (stream d N u).take (j + 1) = (stream d N u).take j ++ [u / 2 ^ (N - d * (j + 1)) % 2 ^ d] := by
  have := stream_get d N u j hd h
  rw [List.getElem?_eq_some_iff] at this
  obtain ⟨h1, h2⟩ := this
  rw [List.take_succ_eq_append_getElem h1, h2]
/-- k bits came in, a digit goes out -/
theorem stream_in (d N u k x : Nat) (hd : 0 < d) (hx : x < 2 ^ k) (hk : k ≤ d) (h : d ≤ N % d + k) : stream d (N + k) (u * 2 ^ k + x) = stream d N u ++ [(u * 2 ^ k + x) / 2 ^ (N % d + k - d) % 2 ^ d] := by
  have h1 := Nat.div_add_mod N d
  have h2 := Nat.mod_lt N hd
  have e1 : (N + k) / d = N / d + 1 := by
    have : N + k = d * (N / d + 1) + (N % d + k - d) := by rw [Nat.mul_add]; omega
    rw [this, Nat.mul_add_div hd, Nat.div_eq_of_lt (show N % d + k - d < d by omega)]
  rw [← stream_pre d N u k x hd hx]
  have := stream_step d (N + k) (u * 2 ^ k + x) (N / d) hd (by omega)
  rw [List.take_of_length_le (by rw [stream_len]; omega)] at this
  have e2 : N + k - d * (N / d + 1) = N % d + k - d := by rw [Nat.mul_add]; omega
  rw [e2] at this
  exact this
/-- k bits came in, no digit goes out -/
theorem stream_no (d N u k x : Nat) (hd : 0 < d) (hx : x < 2 ^ k) (h : N % d + k < d) : stream d (N + k) (u * 2 ^ k + x) = stream d N u := by
  have h1 := Nat.div_add_mod N d
  have e1 : (N + k) / d = N / d := by
    have : N + k = d * (N / d) + (N % d + k) := by omega
    rw [this, Nat.mul_add_div hd, Nat.div_eq_of_lt h, Nat.add_zero]
  rw [← stream_pre d N u k x hd hx]
  rw [List.take_of_length_le (by rw [stream_len]; omega)]
theorem decL_stream (vs : List Nat) : decL vs = (stream 8 (6 * vs.length) (val 64 vs)).map UInt8.ofNat := rfl
/-- the letters: those of whole digits, and one of what is left -/
theorem nums_stream (s : List UInt8) : nums s = stream 6 (8 * s.length) (bigN s) ++ (if 8 * s.length % 6 = 0 then [] else [bigN s * 2 ^ (6 - 8 * s.length % 6) % 64]) := by
  by_cases h : 8 * s.length % 6 = 0
  · rw [if_pos h, List.append_nil]
    unfold nums stream
    rw [h, show 6 * lets s.length - 8 * s.length = 0 by unfold lets; omega, show lets s.length = 8 * s.length / 6 by unfold lets; omega]
    simp
  · rw [if_neg h]
    have e1 : 6 * lets s.length - 8 * s.length = 6 - 8 * s.length % 6 := by unfold lets; omega
    have e2 : lets s.length = 8 * s.length / 6 + 1 := by unfold lets; omega
    have := stream_in 6 (8 * s.length) (bigN s) (6 - 8 * s.length % 6) 0 (by decide) (Nat.two_pow_pos _) (by omega) (by omega)
    rw [Nat.add_zero, show 8 * s.length % 6 + (6 - 8 * s.length % 6) - 6 = 0 by omega, Nat.pow_zero, Nat.div_one] at this
    rw [show (64 : Nat) = 2 ^ 6 from rfl, ← this]
    unfold nums stream
    rw [e1, show (8 * s.length + (6 - 8 * s.length % 6)) % 6 = 0 by omega, Nat.pow_zero, Nat.div_one, show (8 * s.length + (6 - 8 * s.length % 6)) / 6 = lets s.length by omega]
/-- a bit of bytes -/
theorem bigN_take (s : List UInt8) (k : Nat) (hk : k ≤ s.length) : bigN (s.take k) = bigN s / 2 ^ (8 * (s.length - k)) := by
  have := val_take 256 (by decide) _ (bytes_lt s) k (by simpa using hk)
  rw [List.length_map, ← List.map_take, pow256] at this
  exact this
theorem bigN_succ (s : List UInt8) (k : Nat) (hk : k < s.length) : bigN (s.take (k + 1)) = bigN (s.take k) * 2 ^ 8 + (s.getD k 0).toNat := by
  unfold bigN
  rw [List.map_take, List.map_take, take_succ_val 256 _ k (by simpa using hk), Nat.mul_comm]
  congr 1
  simp [List.getD_eq_getElem?_getD, hk]
theorem bigN_bit (s : List UInt8) (k : Nat) (hk : k < 8 * s.length) : (s.getD (k / 8) 0).toNat / 2 ^ (7 - k % 8) % 2 = bigN s / 2 ^ (8 * s.length - 1 - k) % 2 := by
  have h1 := bigN_succ s (k / 8) (by omega)
  have h2 := bigN_take s (k / 8 + 1) (by omega)
  have e : 8 * s.length - 1 - k = 8 * (s.length - (k / 8 + 1)) + (7 - k % 8) := by omega
  rw [e, Nat.pow_add, ← Nat.div_div_eq_div_mul, ← h2, h1]
  have h8 : 2 ^ 8 = 2 ^ (7 - k % 8) * 2 ^ (k % 8 + 1) := by rw [← Nat.pow_add]; congr 1; omega
  rw [h8, Nat.mul_comm, Nat.mul_assoc, Nat.mul_add_div (Nat.two_pow_pos _), Nat.pow_succ]
  rw [show 2 ^ (k % 8) * 2 * bigN (List.take (k / 8) s) = 2 * (2 ^ (k % 8) * bigN (List.take (k / 8) s)) by rw [Nat.mul_comm (2 ^ (k % 8)) 2, Nat.mul_assoc], Nat.mul_add_mod]
end Mvl
