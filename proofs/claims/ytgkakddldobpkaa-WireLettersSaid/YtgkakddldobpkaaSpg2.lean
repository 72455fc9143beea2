/- Pure sponge: the permutation of bytes, both ways. -/
import Derived.Test.YtgkakddldobpkaaSpg
namespace Mvp

def zeros25 : List UInt64 := List.replicate 25 0
def permS (S : List UInt64) : List UInt64 := permP (turnsK 24) (fun r => rcP r 8) S 24
def permB (l : List UInt8) : List UInt8 := toB (permS (xorB zeros25 l 200)) 200
theorem permS_len (S : List UInt64) : (permS S).length = S.length := permP_len _ _ _ _
theorem permR_eq (S : List UInt64) (h : S.length = 25) : permR (turnsK 24) (fun r => rcR r 7) S 24 = permS S :=
  (perm_same (turnsK 24) (fun r => rcP r 8) (fun r => rcR r 7) S h 24 (fun r hr => rc_same r hr)).symm

/- the reference's way: by or -/
def orStep (s : List UInt64) (i : Nat) (x : UInt8) : List UInt64 := s.set (i / 8) (wo (s.getD (i / 8) 0) (shl (wid x) (8 * (i % 8))))
def orB (s : List UInt64) (b : List UInt8) (k : Nat) : List UInt64 := (List.range k).foldl (fun s i => orStep s i (b.getD i 0)) s
theorem orB_succ (s : List UInt64) (b : List UInt8) (k : Nat) : orB s b (k + 1) = orStep (orB s b k) k (b.getD k 0) := by simp [orB, List.range_succ]
theorem orB_len (s : List UInt64) (b : List UInt8) (k : Nat) : (orB s b k).length = s.length := by
  induction k with
  | zero => simp [orB]
  | succ k ih => rw [orB_succ]; simp [orStep, ih]

theorem or_xor (x y k : Nat) (h : x < 2 ^ k) : x ||| (y * 2 ^ k) = x ^^^ (y * 2 ^ k) := by
  apply Nat.eq_of_testBit_eq
  intro i
  rw [Nat.testBit_or, Nat.testBit_xor]
  rcases Nat.lt_or_ge i k with hi | hi
  · have : (y * 2 ^ k).testBit i = false := by rw [Nat.testBit_mul_two_pow]; simp; omega
    simp [this]
  · have : x.testBit i = false := Nat.testBit_lt_two_pow (Nat.lt_of_lt_of_le h (Nat.pow_le_pow_right (by omega) hi))
    simp [this]
theorem shl_wid (x : UInt8) (k : Nat) (hk : k ≤ 56) : (shl (wid x) k).toNat = x.toNat * 2 ^ k := by
  have hx := x.toNat_lt
  have h1 : x.toNat * 2 ^ k < 2 ^ 8 * 2 ^ 56 := by
    have h2 : 2 ^ k ≤ 2 ^ 56 := Nat.pow_le_pow_right (by omega) hk
    have h3 : 0 < 2 ^ k := Nat.two_pow_pos k
    calc x.toNat * 2 ^ k < 2 ^ 8 * 2 ^ k := Nat.mul_lt_mul_of_pos_right hx h3
      _ ≤ 2 ^ 8 * 2 ^ 56 := Nat.mul_le_mul_left _ h2
  simp only [shl, wid, UInt64.toNat_ofNat', UInt8.toNat_toUInt64]
  exact Nat.mod_eq_of_lt (by simpa using h1)
theorem wo_wx (a : UInt64) (x : UInt8) (k : Nat) (hk : k ≤ 56) (h : a.toNat < 2 ^ k) : wo a (shl (wid x) k) = wx a (shl (wid x) k) := by
  apply UInt64.toNat_inj.1
  simp only [wo, wx, UInt64.toNat_or, UInt64.toNat_xor]
  rw [shl_wid x k hk, or_xor _ _ _ h]
theorem wx_lt (a : UInt64) (x : UInt8) (k : Nat) (hk : k ≤ 56) (h : a.toNat < 2 ^ k) : (wx a (shl (wid x) k)).toNat < 2 ^ (k + 8) := by
  simp only [wx, UInt64.toNat_xor]
  rw [shl_wid x k hk]
  have hx := x.toNat_lt
  refine Nat.xor_lt_two_pow (Nat.lt_of_lt_of_le h (Nat.pow_le_pow_right (by omega) (by omega))) ?_
  rw [Nat.pow_add, Nat.mul_comm (2 ^ k)]
  exact Nat.mul_lt_mul_of_pos_right hx (Nat.two_pow_pos k)

/-- up to byte k each word has just the bits that have been laid -/
def low (s : List UInt64) (k : Nat) : Prop := ∀ j, j < 25 → (s.getD j 0).toNat < 2 ^ (8 * (k - 8 * j))
theorem getD_set (s : List UInt64) (i j : Nat) (v : UInt64) (hi : i < s.length) : (s.set i v).getD j 0 = if i = j then v else s.getD j 0 := by
  have _h := hi
  simp only [List.getD_eq_getElem?_getD, List.getElem?_set]
  split
  · rename_i h; subst h; simp
  · rfl
theorem or_same (b : List UInt8) (k : Nat) (hk : k ≤ 200) : orB zeros25 b k = xorB zeros25 b k ∧ (∀ j, j < 25 → ((xorB zeros25 b k).getD j 0).toNat < 2 ^ (8 * min (k - 8 * j) 8)) := by
  induction k with
  | zero =>
    refine ⟨by simp [orB, xorB], fun j hj => ?_⟩
    have hz : ∀ j, j < 25 → zeros25.getD j 0 = 0 := by decide
    have e : xorB zeros25 b 0 = zeros25 := by simp [xorB]
    rw [e, hz j hj]
    simp
  | succ k ih =>
    obtain ⟨h1, h2⟩ := ih (by omega)
    have hl : (xorB zeros25 b k).length = 25 := by rw [xorB_len]; simp [zeros25]
    have hk8 : k / 8 < 25 := by omega
    have h3 := h2 (k / 8) hk8
    have e3 : min (k - 8 * (k / 8)) 8 = k % 8 := by omega
    rw [e3] at h3
    refine ⟨?_, fun j hj => ?_⟩
    · rw [orB_succ, xorB_succ, h1, orStep, xorStep, wo_wx _ _ _ (by omega) h3]
    · rw [xorB_succ, xorStep, getD_set _ _ _ _ (by omega)]
      split
      · rename_i e
        subst e
        have := wx_lt ((xorB zeros25 b k).getD (k / 8) 0) (b.getD k 0) (8 * (k % 8)) (by omega) h3
        have e4 : 8 * min (k + 1 - 8 * (k / 8)) 8 = 8 * (k % 8) + 8 := by omega
        rw [e4]; exact this
      · rename_i e
        have e5 : min (k + 1 - 8 * j) 8 = min (k - 8 * j) 8 := by omega
        rw [e5]; exact h2 j hj
end Mvp
