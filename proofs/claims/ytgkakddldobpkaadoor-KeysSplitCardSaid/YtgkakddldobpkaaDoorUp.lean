import Derived.Test.YtgkakddldobpkaaDoorPop
/- Plain: an amount in its bits. -/
namespace Mvk
def up (x : Nat) : Nat → List Nat
  | 0 => []
  | n + 1 => up x n ++ (if x / 2 ^ n % 2 = 1 then [2 ^ n] else [])
theorem up_len (x : Nat) : ∀ n, (up x n).length = pcn n x
  | 0 => rfl
  | n + 1 => by
    rw [up, List.length_append, up_len x n, pcn_add n 1 x]
    simp only [pcn]
    split <;> simp <;> omega
theorem up_sum (x : Nat) : ∀ n, (up x n).sum = x % 2 ^ n
  | 0 => by simp [up, Nat.mod_one]
  | n + 1 => by
    rw [up, List.sum_append, up_sum x n, Nat.pow_succ, Nat.mod_mul]
    have : x / 2 ^ n % 2 < 2 := Nat.mod_lt _ (by decide)
    split
    · rename_i h; rw [h]; simp
    · rename_i h
      rw [show x / 2 ^ n % 2 = 0 by omega]; simp
theorem up_mem (x n a : Nat) (h : a ∈ up x n) : ∃ k, k < n ∧ a = 2 ^ k := by
  induction n with
  | zero => simp [up] at h
  | succ n ih =>
    rw [up] at h
    rcases List.mem_append.1 h with h | h
    · obtain ⟨k, hk, e⟩ := ih h; exact ⟨k, by omega, e⟩
    · split at h
      · simp at h; exact ⟨n, by omega, h⟩
      · simp at h
/-- bits that are not set add nothing -/
theorem up_zero (x i : Nat) : ∀ s, (∀ r, r < s → x / 2 ^ (i + r) % 2 = 0) → up x (i + s) = up x i
  | 0, _ => rfl
  | s + 1, h => by
    rw [← Nat.add_assoc, up, up_zero x i s (fun r hr => h r (by omega)), if_neg (by rw [h s (by omega)]; decide), List.append_nil]
theorem div_div_pow (x i r : Nat) : x / 2 ^ (i + r) = x / 2 ^ i / 2 ^ r := by rw [Nat.pow_add, Nat.div_div_eq_div_mul]
theorem odd_low (t j r : Nat) (h : r < t) : 2 ^ t * (2 * j + 1) / 2 ^ r % 2 = 0 := by
  obtain ⟨d, rfl⟩ : ∃ d, t = r + (d + 1) := ⟨t - r - 1, by omega⟩
  rw [Nat.pow_add, Nat.mul_assoc, Nat.mul_div_cancel_left _ (Nat.two_pow_pos r), Nat.pow_succ, Nat.mul_comm (2 ^ d) 2, Nat.mul_assoc]
  omega
/-- the next bit that is set -/
theorem up_next (x i t j : Nat) (h : x / 2 ^ i = 2 ^ t * (2 * j + 1)) : up x (i + t + 1) = up x i ++ [2 ^ (i + t)] ∧ x / 2 ^ (i + t + 1) = j := by
  have h1 : up x (i + t) = up x i := up_zero x i t (fun r hr => by rw [div_div_pow, h]; exact odd_low t j r hr)
  have h2 : x / 2 ^ (i + t) = 2 * j + 1 := by rw [div_div_pow, h, Nat.mul_div_cancel_left _ (Nat.two_pow_pos t)]
  refine ⟨by rw [up, h1, h2, if_pos (by omega)], ?_⟩
  rw [div_div_pow, h2]; omega
theorem up_end (x i n : Nat) (h : x / 2 ^ i = 0) (hn : i ≤ n) : up x n = up x i := by
  obtain ⟨s, rfl⟩ : ∃ s, n = i + s := ⟨n - i, by omega⟩
  exact up_zero x i s (fun r _ => by rw [div_div_pow, h, Nat.zero_div])
/-- an amount in denominations -/
def splitL (x : Nat) : List Nat := up (x % 524288) 19 ++ List.replicate (x / 524288) 524288
theorem splitL_len (x : Nat) : (splitL x).length = pcn 19 (x % 524288) + x / 524288 := by rw [splitL, List.length_append, up_len, List.length_replicate]
theorem splitL_sum (x : Nat) : (splitL x).sum = x := by
  have hr : ∀ n : Nat, (List.replicate n 524288).sum = n * 524288 := by
    intro n
    induction n with
    | zero => rfl
    | succ n ih => rw [List.replicate_succ, List.sum_cons, ih]; omega
  rw [splitL, List.sum_append, up_sum, hr]
  have e : (2 : Nat) ^ 19 = 524288 := rfl
  rw [e, Nat.mod_mod]
  omega
theorem splitL_mem (x a : Nat) (h : a ∈ splitL x) : ∃ k, k ≤ 19 ∧ a = 2 ^ k := by
  rw [splitL] at h
  rcases List.mem_append.1 h with h | h
  · obtain ⟨k, hk, e⟩ := up_mem _ _ _ h; exact ⟨k, by omega, e⟩
  · exact ⟨19, Nat.le_refl _, by rw [List.eq_of_mem_replicate h]⟩
theorem bit_mod (x i : Nat) (h : i < 19) : x % 524288 / 2 ^ i % 2 = x / 2 ^ i % 2 := by
  have e : 524288 = 2 ^ i * 2 ^ (19 - i) := by rw [← Nat.pow_add, show i + (19 - i) = 19 by omega]
  rw [e, Nat.mod_mul_right_div_self, Nat.mod_mod_of_dvd]
  exact ⟨2 ^ (19 - i - 1), by rw [Nat.mul_comm, ← Nat.pow_succ]; congr 1; omega⟩
/-- one step of the program: the lowest bit that is set is taken -/
theorem up_step (low i : Nat) (h : low < 524288) (h0 : low / 2 ^ i ≠ 0) : ∃ k z z2, i ≤ k ∧ k < 19 ∧ low / 2 ^ i * 2 ^ i = z ∧ 0 < z ∧ z < 524288 ∧ z2 < z ∧ z &&& (18446744073709551616 - z) = 2 ^ k ∧ z &&& (z - 1) = z2 ∧ up low (k + 1) = up low i ++ [2 ^ k] ∧ low / 2 ^ (k + 1) * 2 ^ (k + 1) = z2 := by
  obtain ⟨t, j, hy⟩ := odd_part _ (Nat.pos_of_ne_zero h0)
  obtain ⟨hn1, hn2⟩ := up_next low i t j hy
  have hle : low / 2 ^ i * 2 ^ i ≤ low := Nat.div_mul_le_self _ _
  have hval : low / 2 ^ i * 2 ^ i = 2 ^ (i + t) * (2 * j + 1) := by rw [hy, Nat.pow_add, Nat.mul_comm _ (2 ^ i), Nat.mul_assoc]
  rw [hval] at hle
  have hlt : 2 ^ (i + t) * (2 * j + 1) < 2 ^ 19 := Nat.lt_of_le_of_lt hle h
  have hpw : 2 ^ (i + t) ≤ 2 ^ (i + t) * (2 * j + 1) := Nat.le_mul_of_pos_right _ (by omega)
  have hk19 : i + t < 19 := (Nat.pow_lt_pow_iff_right (by decide)).1 (Nat.lt_of_le_of_lt hpw hlt)
  have h64 : 2 ^ (i + t) * (2 * j + 1) < 2 ^ 64 := Nat.lt_trans hlt (Nat.pow_lt_pow_right (by decide) (by decide))
  have hlow := only_low 64 (i + t) j h64
  have hclr := clear_low (i + t) j
  have hnew : low / 2 ^ (i + t + 1) * 2 ^ (i + t + 1) = 2 ^ (i + t) * (2 * j) := by
    rw [hn2, Nat.pow_succ, Nat.mul_comm j, Nat.mul_assoc]
  have hpos : 0 < 2 ^ (i + t) * (2 * j + 1) := Nat.mul_pos (Nat.two_pow_pos _) (by omega)
  have hless : 2 ^ (i + t) * (2 * j) < 2 ^ (i + t) * (2 * j + 1) := Nat.mul_lt_mul_of_pos_left (by omega) (Nat.two_pow_pos _)
  exact ⟨i + t, _, _, Nat.le_add_right _ _, hk19, hval, hpos, hlt, hless, hlow, hclr, hn1, hnew⟩
end Mvk
