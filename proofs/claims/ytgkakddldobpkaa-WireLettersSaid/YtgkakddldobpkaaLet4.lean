/- wire.FromLetters. -/
import Derived.Test.YtgkakddldobpkaaLet3
namespace Mvl
/-- the place of a letter; below 0: it is none -/
def posI (c : UInt8) : Int := Go.Lib.indexByte table c
def posB (c : UInt8) : UInt8 := UInt8.ofNat (posI c).toNat
theorem pos_all : ∀ c : Fin 256, (posI (UInt8.ofNat c.1) = -1 ∧ ∀ i : Fin 64, letter i.1 ≠ UInt8.ofNat c.1) ∨ (0 ≤ posI (UInt8.ofNat c.1) ∧ posI (UInt8.ofNat c.1) < 64 ∧ letter (posI (UInt8.ofNat c.1)).toNat = UInt8.ofNat c.1) := by decide +kernel
theorem pos_cases (c : UInt8) : (posI c = -1 ∧ ∀ i, i < 64 → letter i ≠ c) ∨ ((posB c).toNat < 64 ∧ posI c = ((posB c).toNat : Int) ∧ letter (posB c).toNat = c) := by
  have h := pos_all ⟨c.toNat, c.toNat_lt⟩
  simp only [UInt8.ofNat_toNat] at h
  rcases h with ⟨h1, h2⟩ | ⟨h1, h2, h3⟩
  · exact .inl ⟨h1, fun i hi => h2 ⟨i, hi⟩⟩
  · have e : (posB c).toNat = (posI c).toNat := by unfold posB; simp; omega
    exact .inr ⟨by omega, by omega, by rw [e]; exact h3⟩
/-- the numbers of a text of letters -/
def vals (l : List UInt8) : List Nat := l.map fun c => (posB c).toNat
/-- each is a letter -/
def good (l : List UInt8) : Bool := l.all fun c => decide (0 ≤ posI c)
theorem good_get (l : List UInt8) (h : good l = true) (i : Nat) (hi : i < l.length) : (posB (l.getD i 0)).toNat < 64 ∧ posI (l.getD i 0) = ((posB (l.getD i 0)).toNat : Int) ∧ letter (posB (l.getD i 0)).toNat = l.getD i 0 := by
  have e : l.getD i 0 = l[i] := by simp [List.getD_eq_getElem?_getD, hi]
  have := List.all_eq_true.1 h l[i] (List.getElem_mem _)
  rw [e]
  rcases pos_cases l[i] with h1 | h1
  · simp [h1.1] at this
  · exact h1
theorem good_lt (l : List UInt8) (h : good l = true) : ∀ x ∈ vals l, x < 64 := by
  intro x hx
  simp only [vals, List.mem_map] at hx
  obtain ⟨c, hc, rfl⟩ := hx
  have := List.all_eq_true.1 h c hc
  rcases pos_cases c with h1 | h1
  · simp [h1.1] at this
  · exact h1.1
theorem good_letters (l : List UInt8) (h : good l = true) : (vals l).map letter = l := by
  unfold vals
  rw [List.map_map]
  conv => rhs; rw [← List.map_id l]
  apply List.map_congr_left
  intro c hc
  have := List.all_eq_true.1 h c hc
  rcases pos_cases c with h1 | h1
  · simp [h1.1] at this
  · exact h1.2.2
theorem good_not (l : List UInt8) (i : Nat) (hi : i < l.length) (h : posI (l.getD i 0) < 0) : good l = false := by
  unfold good
  rw [List.all_eq_false]
  exact ⟨l[i], List.getElem_mem _, by simpa [List.getD_eq_getElem?_getD, hi] using h⟩
theorem good_take (l : List UInt8) (i : Nat) (hi : i < l.length) (h : good (l.take i) = true) (hp : 0 ≤ posI (l.getD i 0)) : good (l.take (i + 1)) = true := by
  unfold good at *
  rw [List.take_succ_eq_append_getElem hi, List.all_append, h]
  simpa [List.getD_eq_getElem?_getD, hi] using hp
theorem vals_take (l : List UInt8) (k : Nat) : vals (l.take k) = (vals l).take k := by simp [vals, List.map_take]
theorem vals_len (l : List UInt8) : (vals l).length = l.length := by simp [vals]
theorem vals_succ (l : List UInt8) (k : Nat) (hk : k < l.length) : val 64 (vals (l.take (k + 1))) = val 64 (vals (l.take k)) * 2 ^ 6 + (posB (l.getD k 0)).toNat := by
  rw [vals_take, vals_take, take_succ_val 64 _ k (by rw [vals_len]; exact hk), Nat.mul_comm]
  congr 1
  simp [vals, List.getD_eq_getElem?_getD, hk]
/-- what is answered: bytes, and what is wrong -/
def fromL (l : List UInt8) : List UInt8 × Nat :=
  if 131072 < l.length then ([], 1) else if good l = false then ([], 2) else if fine (vals l) then (decL (vals l), 0) else ([], 2)
/-- the letters of bytes are letters -/
theorem posB_letter (i : Nat) (h : i < 64) : (posB (letter i)).toNat = i := by
  have h64 : ∀ a : Fin 64, (posB (letter a.1)).toNat = a.1 := by decide +kernel
  exact h64 ⟨i, h⟩
theorem pos_letter (i : Nat) (h : i < 64) : 0 ≤ posI (letter i) := by
  have h64 : ∀ a : Fin 64, 0 ≤ posI (letter a.1) := by decide +kernel
  exact h64 ⟨i, h⟩
theorem good_map (vs : List Nat) (h : ∀ x ∈ vs, x < 64) : good (vs.map letter) = true ∧ vals (vs.map letter) = vs := by
  constructor
  · unfold good
    rw [List.all_eq_true]
    intro c hc
    simp only [List.mem_map] at hc
    obtain ⟨x, hx, rfl⟩ := hc
    exact decide_eq_true (pos_letter x (h x hx))
  · unfold vals
    rw [List.map_map]
    conv => rhs; rw [← List.map_id vs]
    apply List.map_congr_left
    intro x hx
    exact posB_letter x (h x hx)
theorem fromL_letters (s : List UInt8) (h : ¬ 131072 < (lettersL s).length) : fromL (lettersL s) = (s, 0) := by
  obtain ⟨h1, h2⟩ := good_map (nums s) (nums_lt s)
  obtain ⟨h3, h4⟩ := there_back s
  unfold fromL
  rw [if_neg h]
  unfold lettersL at *
  rw [h1, h2, h3, h4]; rfl
end Mvl
namespace Go.Mv
open Go.RowKit Mvp
theorem eight (u b : Nat) (h : b ≤ 56) : u % 18446744073709551616 / 2 ^ b % 256 = u / 2 ^ b % 256 := by
  obtain ⟨c, hc⟩ : ∃ c, 56 = b + c := ⟨56 - b, by omega⟩
  have e : 18446744073709551616 = 2 ^ b * (2 ^ c * 256) := by
    rw [show (256 : Nat) = 2 ^ 8 from rfl, ← Nat.pow_add, ← Nat.pow_add, show b + (c + 8) = 64 by omega]
  rw [e, Nat.mod_mul_right_div_self, Nat.mul_comm, Nat.mod_mul_right_mod]
theorem shl_or6 (x : UInt64) (y : UInt8) (u : Nat) (h : x.toNat = u % 18446744073709551616) (hy : y.toNat < 64) : (wo (shl x 6) (wid y)).toNat = (u * 2 ^ 6 + y.toNat) % 18446744073709551616 := by
  have h1 : (wo (shl x 6) (wid y)).toNat = (x.toNat * 2 ^ 6 % 18446744073709551616) ||| y.toNat := by simp [wo, shl_toNat, wid]
  have h2 : x.toNat * 2 ^ 6 % 18446744073709551616 = 2 ^ 6 * (x.toNat % 288230376151711744) := by
    rw [Nat.mul_comm, show 18446744073709551616 = 2 ^ 6 * 288230376151711744 from rfl, Nat.mul_mod_mul_left]
  rw [h1, h2, ← Nat.two_pow_add_eq_or_of_lt (by simpa using hy), h]
  omega
theorem lo_eight (x : UInt64) (u b : Nat) (h : x.toNat = u % 18446744073709551616) (hb : b ≤ 56) : lo8 (shr x b) = UInt8.ofNat (u / 2 ^ b % 256) := by
  apply UInt8.toNat_inj.1
  have := eight u b hb
  simp [lo8, shr_toNat, h]; omega
end Go.Mv
