/- The tree, plain: what a path leads to, from its end (the document) and from its beginning (the program); ; The tree by levels, plain: its root, paths and growths are the document's; Words for memory: which blocks may have turned (Fr), a block known whole (Has), a slice that reads as a list of cells (Rd). Nothing here knows of a program; Laws of the walk for make, copy, append and conversions, over the words of Mem. Nothing here knows of a program; Plain lemmas on lists: filling a list from the left; mintvaultref1.Lent: the bytes of a text, at the front of a longer list; mintvaultref1.Still: is a list all as it was lent?; Rules of the walk for words: what Go's operators on 64-bit words and on bytes are on UInt64 and UInt8; Pure sponge: what the program's and the reference's permutation compute, and that the two are one; word functions of the sponge; the constants of the rounds, and how far the lanes are turned; Whole arrays in memory: load, store, result, over the words of Mem; how far the lanes are turned; the state: bytes are added, and given; the state's bytes; Permute; the permutation of the program; the reference's round; Pure sponge: the permutation of bytes, both ways; Permute, the program's and the reference's; Permute of the reference; Pure sponge: bytes are fed one by one; the sponge and what is hashed with it; Pure sponge: words and their bytes are one; Slice expressions as equations on their runs: to be laid ahead of a walk. -/
import Derived.WalkKit
import Derived.WalkLawsBesides
import Derived.WalkSpells
import Derived.Lib.Hide
import Derived.Laws.CopyOwn
import Derived.Deep.QuietTactic
import Derived.BigQuiet
import Derived.StillTailTactics
import Derived.Deep.RegionHeld3
import Derived.Deep.RegionWith
import Derived.Deep.DeepFit
import Derived.Test.YtgkakddldobpkaaDoorProg
import Derived.KernelRfl
import Derived.Deep.MidRow
namespace Mvt
variable {α : Type} (nd : α → α → α)
/-- the greatest power of two below n -/
def half (n : Nat) : Nat := 2 ^ Nat.log2 (n - 1)
theorem half_le (n : Nat) (h : 2 ≤ n) : half n ≤ n - 1 := Nat.log2_self_le (by omega)
theorem half_lt (n : Nat) (_h : 2 ≤ n) : n - 1 < 2 * half n := by
  have := Nat.lt_log2_self (n := n - 1)
  rw [Nat.pow_succ] at this
  unfold half; omega
theorem half_pos (n : Nat) : 0 < half n := Nat.two_pow_pos _
/-- what a path leads to: its entries in reverse, how many leaves, which one -/
def leadsR (d : α) (h : α) : List α → Nat → Nat → α × Bool
  | [], n, _ => if n = 1 then (h, true) else (d, false)
  | e :: r, n, i => if n = 1 then (h, false) else
      if i < half n then (nd (leadsR d h r (half n) i).1 e, (leadsR d h r (half n) i).2)
      else (nd e (leadsR d h r (n - half n) (i - half n)).1, (leadsR d h r (n - half n) (i - half n)).2)
/-- up, as far as nothing stands beside -/
def skip (a e : Nat) : Nat × Nat := if a % 2 = 0 ∧ 0 < a then skip (a / 2) (e / 2) else (a, e)
termination_by a
decreasing_by omega
/-- the program's way -/
def climb : Nat → Nat → α → List α → Option α
  | _, e, h, [] => if e = 0 then some h else none
  | a, e, h, b :: p => if e = 0 then none else
      if a % 2 = 0 ∧ a ≠ e then climb (a / 2) (e / 2) (nd h b) p
      else climb ((skip a e).1 / 2) ((skip a e).2 / 2) (nd b h) p
theorem skip_odd (a e : Nat) (h : a % 2 = 1) : skip a e = (a, e) := by rw [skip, if_neg (by omega)]
theorem skip_even (a e : Nat) (h : a % 2 = 0) (h0 : 0 < a) : skip a e = skip (a / 2) (e / 2) := by rw [skip, if_pos ⟨h, h0⟩]

/-- the left part: it is whole -/
theorem climb_left (m : Nat) : ∀ (a e : Nat) (h x : α) (p : List α), a < 2 ^ m → 2 ^ m ≤ e → e < 2 ^ (m + 1) → climb nd a e h (p ++ [x]) = (climb nd a (2 ^ m - 1) h p).map fun y => nd y x := by
  induction m with
  | zero =>
    intro a e h x p ha he he2
    have e1 : e = 1 := by simp at he he2; omega
    have a0 : a = 0 := by simpa using ha
    subst e1 a0
    cases p with
    | nil => simp [climb]
    | cons c p =>
      have : (p ++ [x]) ≠ [] := by simp
      cases hp : p ++ [x] with
      | nil => exact absurd hp this
      | cons b q => simp [climb, hp]
  | succ m ih =>
    intro a e h x p ha he he2
    have hp2 : 2 ^ (m + 1) = 2 * 2 ^ m := by rw [Nat.pow_succ]; omega
    have hp3 : 2 ^ (m + 1 + 1) = 2 * 2 ^ (m + 1) := by rw [Nat.pow_succ]; omega
    have hpos : 0 < 2 ^ m := Nat.two_pow_pos m
    have hne : ¬ e = 0 := by omega
    have hne2 : ¬ 2 ^ (m + 1) - 1 = 0 := by omega
    have hdiv : (2 ^ (m + 1) - 1) / 2 = 2 ^ m - 1 := by omega
    cases p with
    | nil =>
      have h1 : climb nd a e h ([] ++ [x]) = none := by
        simp only [List.nil_append, climb, if_neg hne]
        by_cases hev : a % 2 = 0 ∧ a ≠ e
        · rw [if_pos hev, if_neg (by omega)]
        · have hod : a % 2 = 1 := by omega
          rw [if_neg hev, skip_odd a e hod, if_neg (by simp only; omega)]
      rw [h1]
      simp [climb, hne2]
    | cons c p =>
      simp only [List.cons_append, climb, if_neg hne, if_neg hne2]
      by_cases hev : a % 2 = 0
      · rw [if_pos ⟨hev, by omega⟩, if_pos ⟨hev, by omega⟩, hdiv]
        exact ih (a / 2) (e / 2) _ x p (by omega) (by omega) (by omega)
      · rw [if_neg (by omega), if_neg (by omega), skip_odd a e (by omega), skip_odd a _ (by omega), hdiv]
        exact ih (a / 2) (e / 2) _ x p (by omega) (by omega) (by omega)

/-- the right part, where nothing is skipped or both are -/
theorem skip_sub (m : Nat) : ∀ (a : Nat), 2 ^ m < a → a < 2 ^ (m + 1) → ∃ j, j ≤ m ∧ (skip a a) = ((skip (a - 2 ^ m) (a - 2 ^ m)).1 + 2 ^ j, (skip (a - 2 ^ m) (a - 2 ^ m)).1 + 2 ^ j) ∧ (skip (a - 2 ^ m) (a - 2 ^ m)).2 = (skip (a - 2 ^ m) (a - 2 ^ m)).1 ∧ (skip (a - 2 ^ m) (a - 2 ^ m)).1 % 2 = 1 ∧ (skip (a - 2 ^ m) (a - 2 ^ m)).1 < 2 ^ j ∧ 1 ≤ j := by
  induction m with
  | zero => intro a h1 h2; simp at h1 h2; omega
  | succ m ih =>
    intro a h1 h2
    have hp2 : 2 ^ (m + 1) = 2 * 2 ^ m := by rw [Nat.pow_succ]; omega
    have hp3 : 2 ^ (m + 1 + 1) = 2 * 2 ^ (m + 1) := by rw [Nat.pow_succ]; omega
    by_cases hev : a % 2 = 0
    · have hs1 := skip_even a a hev (by omega)
      have hs2 := skip_even (a - 2 ^ (m + 1)) (a - 2 ^ (m + 1)) (by omega) (by omega)
      have hd : (a - 2 ^ (m + 1)) / 2 = a / 2 - 2 ^ m := by omega
      rw [hs1, hs2, hd]
      obtain ⟨j, h3, h4⟩ := ih (a / 2) (by omega) (by omega)
      exact ⟨j, by omega, h4⟩
    · rw [skip_odd a a (by omega), skip_odd _ _ (by omega)]
      exact ⟨m + 1, Nat.le_refl _, by simp only; congr <;> omega, rfl, by simp only; omega, by simp only; omega, by omega⟩

theorem climb_right (m : Nat) : ∀ (a e : Nat) (h x : α) (p : List α), 2 ^ m ≤ a → a ≤ e → e < 2 ^ (m + 1) → climb nd a e h (p ++ [x]) = (climb nd (a - 2 ^ m) (e - 2 ^ m) h p).map fun y => nd x y := by
  induction m using Nat.strongRecOn with
  | _ m ih =>
  intro a e h x p ha he he2
  have hpos : 0 < 2 ^ m := Nat.two_pow_pos m
  have hp1 : 2 ^ (m + 1) = 2 * 2 ^ m := by rw [Nat.pow_succ]; omega
  have hne : ¬ e = 0 := by omega
  -- at the very beginning of the right part, alone
  by_cases h0 : e = 2 ^ m
  · have ha0 : a = 2 ^ m := by omega
    subst h0 ha0
    have hsk : ∀ k, skip (2 ^ k) (2 ^ k) = (1, 1) := by
      intro k
      induction k with
      | zero => rw [skip_odd _ _ (by simp)]
      | succ k ih2 =>
        have : 2 ^ (k + 1) / 2 = 2 ^ k := by rw [Nat.pow_succ]; omega
        rw [skip_even _ _ (by rw [Nat.pow_succ]; omega) (Nat.two_pow_pos _), this, ih2]
    cases p with
    | nil =>
      simp only [List.nil_append, climb, if_neg hne]
      rw [if_neg (by omega), hsk m]
      simp
    | cons c p =>
      simp only [List.cons_append, climb, if_neg hne]
      rw [if_neg (by omega), hsk m]
      cases hp : p ++ [x] with
      | nil => simp at hp
      | cons b q => simp [climb]
  have hlt : 2 ^ m < e := by omega
  have hm : m ≠ 0 := by intro h; subst h; simp at *; omega
  obtain ⟨k, rfl⟩ : ∃ k, m = k + 1 := ⟨m - 1, by omega⟩
  have hp2 : 2 ^ (k + 1) = 2 * 2 ^ k := by rw [Nat.pow_succ]; omega
  have hposk : 0 < 2 ^ k := Nat.two_pow_pos k
  have hne2 : ¬ e - 2 ^ (k + 1) = 0 := by omega
  by_cases hL : a % 2 = 0 ∧ a ≠ e
  · have hL2 : (a - 2 ^ (k + 1)) % 2 = 0 ∧ a - 2 ^ (k + 1) ≠ e - 2 ^ (k + 1) := by omega
    have d1 : (a - 2 ^ (k + 1)) / 2 = a / 2 - 2 ^ k := by omega
    have d2 : (e - 2 ^ (k + 1)) / 2 = e / 2 - 2 ^ k := by omega
    cases p with
    | nil =>
      simp only [List.nil_append, climb, if_neg hne, if_neg hne2, if_pos hL]
      rw [if_neg (by omega)]; rfl
    | cons c p =>
      simp only [List.cons_append, climb, if_neg hne, if_neg hne2, if_pos hL, if_pos hL2, d1, d2]
      exact ih k (by omega) (a / 2) (e / 2) _ x p (by omega) (by omega) (by omega)
  · have hL2 : ¬ ((a - 2 ^ (k + 1)) % 2 = 0 ∧ a - 2 ^ (k + 1) ≠ e - 2 ^ (k + 1)) := by omega
    by_cases hodd : a % 2 = 1
    · have d1 : (a - 2 ^ (k + 1)) / 2 = a / 2 - 2 ^ k := by omega
      have d2 : (e - 2 ^ (k + 1)) / 2 = e / 2 - 2 ^ k := by omega
      cases p with
      | nil =>
        simp only [List.nil_append, climb, if_neg hne, if_neg hne2, if_neg hL]
        rw [skip_odd a e hodd, if_neg (by simp only; omega)]; rfl
      | cons c p =>
        simp only [List.cons_append, climb, if_neg hne, if_neg hne2, if_neg hL, if_neg hL2]
        rw [skip_odd a e hodd, skip_odd (a - 2 ^ (k + 1)) _ (by omega)]
        simp only [d1, d2]
        exact ih k (by omega) (a / 2) (e / 2) _ x p (by omega) (by omega) (by omega)
    · have hae : a = e := by omega
      subst hae
      obtain ⟨j, hj, h1, h2, h3, h4, h5⟩ := skip_sub (k + 1) a hlt he2
      obtain ⟨i, rfl⟩ : ∃ i, j = i + 1 := ⟨j - 1, by omega⟩
      have hpi : 2 ^ (i + 1) = 2 * 2 ^ i := by rw [Nat.pow_succ]; omega
      have hposi : 0 < 2 ^ i := Nat.two_pow_pos i
      cases p with
      | nil =>
        simp only [List.nil_append, climb, if_neg hne, if_neg hne2, if_neg hL]
        rw [h1, if_neg (by simp only; omega)]; rfl
      | cons c p =>
        simp only [List.cons_append, climb, if_neg hne, if_neg hne2, if_neg hL, if_neg hL2]
        rw [h1, h2]
        generalize (skip (a - 2 ^ (k + 1)) (a - 2 ^ (k + 1))).1 = s at *
        simp only
        have d1 : s / 2 = (s + 2 ^ (i + 1)) / 2 - 2 ^ i := by omega
        rw [d1]
        exact ih i (by omega) ((s + 2 ^ (i + 1)) / 2) ((s + 2 ^ (i + 1)) / 2) _ x p (by omega) (Nat.le_refl _) (by omega)

/-- both ways lead to the same -/
theorem leads_climb (d h : α) : ∀ (r : List α) (n i : Nat), 1 ≤ n → i < n → climb nd i (n - 1) h r.reverse = if (leadsR nd d h r n i).2 = true then some (leadsR nd d h r n i).1 else none := by
  intro r
  induction r with
  | nil =>
    intro n i hn hi
    by_cases h1 : n = 1
    · subst h1; simp [climb, leadsR]
    · simp [climb, leadsR, h1]; omega
  | cons x r ih =>
    intro n i hn hi
    by_cases h1 : n = 1
    · subst h1
      simp only [leadsR, List.reverse_cons]
      cases hp : r.reverse ++ [x] with
      | nil => simp at hp
      | cons b q => simp [climb]
    · have hl := half_le n (by omega)
      have hu := half_lt n (by omega)
      have hp := half_pos n
      have hps : 2 ^ (Nat.log2 (n - 1) + 1) = 2 * half n := by rw [Nat.pow_succ]; unfold half; omega
      simp only [leadsR, List.reverse_cons, if_neg h1]
      by_cases hk : i < half n
      · rw [if_pos hk, climb_left nd (Nat.log2 (n - 1)) i (n - 1) h x r.reverse hk hl (by rw [hps]; exact hu)]
        have := ih (half n) i hp hk
        unfold half at this ⊢
        rw [this]
        split <;> simp_all
      · rw [if_neg hk, climb_right nd (Nat.log2 (n - 1)) i (n - 1) h x r.reverse (by unfold half at hk; omega) (by omega) (by rw [hps]; exact hu)]
        have := ih (n - half n) (i - half n) (by omega) (by omega)
        rw [show n - half n - 1 = n - 1 - half n by omega] at this
        unfold half at this ⊢
        rw [this]
        split <;> simp_all
end Mvt

/- The tree, plain: what a growth leads to. -/
namespace Mvt
variable {α S : Type} (L R : S → α → S)
/-- the program's way, for any state -/
def climbG : Nat → Nat → S → List α → Option S
  | _, e, h, [] => if e = 0 then some h else none
  | a, e, h, b :: p => if e = 0 then none else
      if a % 2 = 0 ∧ a ≠ e then climbG (a / 2) (e / 2) (L h b) p
      else climbG ((skip a e).1 / 2) ((skip a e).2 / 2) (R h b) p

theorem climbG_left (m : Nat) : ∀ (a e : Nat) (h : S) (x : α) (p : List α), a < 2 ^ m → 2 ^ m ≤ e → e < 2 ^ (m + 1) → climbG L R a e h (p ++ [x]) = (climbG L R a (2 ^ m - 1) h p).map fun y => L y x := by
  induction m with
  | zero =>
    intro a e h x p ha he he2
    have e1 : e = 1 := by simp at he he2; omega
    have a0 : a = 0 := by simpa using ha
    subst e1 a0
    cases p with
    | nil => simp [climbG]
    | cons c p =>
      cases hp : p ++ [x] with
      | nil => simp at hp
      | cons b q => simp [climbG, hp]
  | succ m ih =>
    intro a e h x p ha he he2
    have hp2 : 2 ^ (m + 1) = 2 * 2 ^ m := by rw [Nat.pow_succ]; omega
    have hp3 : 2 ^ (m + 1 + 1) = 2 * 2 ^ (m + 1) := by rw [Nat.pow_succ]; omega
    have hpos : 0 < 2 ^ m := Nat.two_pow_pos m
    have hne : ¬ e = 0 := by omega
    have hne2 : ¬ 2 ^ (m + 1) - 1 = 0 := by omega
    have hdiv : (2 ^ (m + 1) - 1) / 2 = 2 ^ m - 1 := by omega
    cases p with
    | nil =>
      have h1 : climbG L R a e h ([] ++ [x]) = none := by
        simp only [List.nil_append, climbG, if_neg hne]
        by_cases hev : a % 2 = 0 ∧ a ≠ e
        · rw [if_pos hev, if_neg (by omega)]
        · have hod : a % 2 = 1 := by omega
          rw [if_neg hev, skip_odd a e hod, if_neg (by simp only; omega)]
      rw [h1]
      simp [climbG, hne2]
    | cons c p =>
      simp only [List.cons_append, climbG, if_neg hne, if_neg hne2]
      by_cases hev : a % 2 = 0
      · rw [if_pos ⟨hev, by omega⟩, if_pos ⟨hev, by omega⟩, hdiv]
        exact ih (a / 2) (e / 2) _ x p (by omega) (by omega) (by omega)
      · rw [if_neg (by omega), if_neg (by omega), skip_odd a e (by omega), skip_odd a _ (by omega), hdiv]
        exact ih (a / 2) (e / 2) _ x p (by omega) (by omega) (by omega)

theorem climbG_right (m : Nat) : ∀ (a e : Nat) (h : S) (x : α) (p : List α), 2 ^ m ≤ a → a ≤ e → e < 2 ^ (m + 1) → climbG L R a e h (p ++ [x]) = (climbG L R (a - 2 ^ m) (e - 2 ^ m) h p).map fun y => R y x := by
  induction m using Nat.strongRecOn with
  | _ m ih =>
  intro a e h x p ha he he2
  have hpos : 0 < 2 ^ m := Nat.two_pow_pos m
  have hp1 : 2 ^ (m + 1) = 2 * 2 ^ m := by rw [Nat.pow_succ]; omega
  have hne : ¬ e = 0 := by omega
  by_cases h0 : e = 2 ^ m
  · have ha0 : a = 2 ^ m := by omega
    subst h0 ha0
    have hsk : ∀ k, skip (2 ^ k) (2 ^ k) = (1, 1) := by
      intro k
      induction k with
      | zero => rw [skip_odd _ _ (by simp)]
      | succ k ih2 =>
        have : 2 ^ (k + 1) / 2 = 2 ^ k := by rw [Nat.pow_succ]; omega
        rw [skip_even _ _ (by rw [Nat.pow_succ]; omega) (Nat.two_pow_pos _), this, ih2]
    cases p with
    | nil =>
      simp only [List.nil_append, climbG, if_neg hne]
      rw [if_neg (by omega), hsk m]
      simp
    | cons c p =>
      simp only [List.cons_append, climbG, if_neg hne]
      rw [if_neg (by omega), hsk m]
      cases hp : p ++ [x] with
      | nil => simp at hp
      | cons b q => simp [climbG]
  have hlt : 2 ^ m < e := by omega
  have hm : m ≠ 0 := by intro h; subst h; simp at *; omega
  obtain ⟨k, rfl⟩ : ∃ k, m = k + 1 := ⟨m - 1, by omega⟩
  have hp2 : 2 ^ (k + 1) = 2 * 2 ^ k := by rw [Nat.pow_succ]; omega
  have hposk : 0 < 2 ^ k := Nat.two_pow_pos k
  have hne2 : ¬ e - 2 ^ (k + 1) = 0 := by omega
  by_cases hL : a % 2 = 0 ∧ a ≠ e
  · have hL2 : (a - 2 ^ (k + 1)) % 2 = 0 ∧ a - 2 ^ (k + 1) ≠ e - 2 ^ (k + 1) := by omega
    have d1 : (a - 2 ^ (k + 1)) / 2 = a / 2 - 2 ^ k := by omega
    have d2 : (e - 2 ^ (k + 1)) / 2 = e / 2 - 2 ^ k := by omega
    cases p with
    | nil =>
      simp only [List.nil_append, climbG, if_neg hne, if_neg hne2, if_pos hL]
      rw [if_neg (by omega)]; rfl
    | cons c p =>
      simp only [List.cons_append, climbG, if_neg hne, if_neg hne2, if_pos hL, if_pos hL2, d1, d2]
      exact ih k (by omega) (a / 2) (e / 2) _ x p (by omega) (by omega) (by omega)
  · have hL2 : ¬ ((a - 2 ^ (k + 1)) % 2 = 0 ∧ a - 2 ^ (k + 1) ≠ e - 2 ^ (k + 1)) := by omega
    by_cases hodd : a % 2 = 1
    · have d1 : (a - 2 ^ (k + 1)) / 2 = a / 2 - 2 ^ k := by omega
      have d2 : (e - 2 ^ (k + 1)) / 2 = e / 2 - 2 ^ k := by omega
      cases p with
      | nil =>
        simp only [List.nil_append, climbG, if_neg hne, if_neg hne2, if_neg hL]
        rw [skip_odd a e hodd, if_neg (by simp only; omega)]; rfl
      | cons c p =>
        simp only [List.cons_append, climbG, if_neg hne, if_neg hne2, if_neg hL, if_neg hL2]
        rw [skip_odd a e hodd, skip_odd (a - 2 ^ (k + 1)) _ (by omega)]
        simp only [d1, d2]
        exact ih k (by omega) (a / 2) (e / 2) _ x p (by omega) (by omega) (by omega)
    · have hae : a = e := by omega
      subst hae
      obtain ⟨j, hj, h1, h2, h3, h4, h5⟩ := skip_sub (k + 1) a hlt he2
      obtain ⟨i, rfl⟩ : ∃ i, j = i + 1 := ⟨j - 1, by omega⟩
      have hpi : 2 ^ (i + 1) = 2 * 2 ^ i := by rw [Nat.pow_succ]; omega
      have hposi : 0 < 2 ^ i := Nat.two_pow_pos i
      cases p with
      | nil =>
        simp only [List.nil_append, climbG, if_neg hne, if_neg hne2, if_neg hL]
        rw [h1, if_neg (by simp only; omega)]; rfl
      | cons c p =>
        simp only [List.cons_append, climbG, if_neg hne, if_neg hne2, if_neg hL, if_neg hL2]
        rw [h1, h2]
        generalize (skip (a - 2 ^ (k + 1)) (a - 2 ^ (k + 1))).1 = s at *
        simp only
        have d1 : s / 2 = (s + 2 ^ (i + 1)) / 2 - 2 ^ i := by omega
        rw [d1]
        exact ih i (by omega) ((s + 2 ^ (i + 1)) / 2) ((s + 2 ^ (i + 1)) / 2) _ x p (by omega) (Nat.le_refl _) (by omega)

variable (nd : α → α → α)
/-- to the left, to the right, of two hashes -/
def gL (s : α × α) (b : α) : α × α := (s.1, nd s.2 b)
def gR (s : α × α) (b : α) : α × α := (nd b s.1, nd b s.2)
/-- up, as far as it is odd -/
def strip (a e : Nat) : Nat × Nat := if a % 2 = 1 then strip (a / 2) (e / 2) else (a, e)
termination_by a
decreasing_by omega
theorem strip_odd (a e : Nat) (h : a % 2 = 1) : strip a e = strip (a / 2) (e / 2) := by rw [strip, if_pos h]
theorem strip_even (a e : Nat) (h : a % 2 = 0) : strip a e = (a, e) := by rw [strip, if_neg (by omega)]
/-- what the program reckons of a growth that begins with the old part's root -/
def grow0 (a e : Nat) : List α → Option (α × α)
  | [] => none
  | g :: p => climbG (gL nd) (gR nd) (strip a e).1 (strip a e).2 (g, g) p
/-- what a growth leads to: its entries in reverse -/
def growsR (d : α) (old : α) : List α → Nat → Nat → Bool → (α × α) × Bool
  | [], m, n, w => if m = n then (if w then ((old, old), true) else ((d, d), false)) else ((d, d), false)
  | x :: r, m, n, w => if m = n then (if w then ((old, old), false) else if r.length = 0 then ((x, x), true) else ((d, d), false)) else
      if m ≤ half n then (((growsR d old r m (half n) w).1.1, nd (growsR d old r m (half n) w).1.2 x), (growsR d old r m (half n) w).2)
      else ((nd x (growsR d old r (m - half n) (n - half n) false).1.1, nd x (growsR d old r (m - half n) (n - half n) false).1.2), (growsR d old r (m - half n) (n - half n) false).2)
def opt (p : (α × α) × Bool) : Option (α × α) := if p.2 = true then some p.1 else none

theorem strip_left (t : Nat) : ∀ (a e : Nat), a < 2 ^ t → 2 ^ t ≤ e → e < 2 ^ (t + 1) → ∃ u, (strip a e).1 = (strip a (2 ^ t - 1)).1 ∧ (strip a (2 ^ t - 1)).2 = 2 ^ u - 1 ∧ (strip a e).1 < 2 ^ u ∧ 2 ^ u ≤ (strip a e).2 ∧ (strip a e).2 < 2 ^ (u + 1) := by
  induction t with
  | zero =>
    intro a e h1 h2 h3
    have a0 : a = 0 := by simpa using h1
    subst a0
    refine ⟨0, ?_⟩
    rw [strip_even 0 e rfl, strip_even 0 _ rfl]
    exact ⟨rfl, rfl, by simp, h2, h3⟩
  | succ t ih =>
    intro a e h1 h2 h3
    have hp2 : 2 ^ (t + 1) = 2 * 2 ^ t := by rw [Nat.pow_succ]; omega
    have hp3 : 2 ^ (t + 1 + 1) = 2 * 2 ^ (t + 1) := by rw [Nat.pow_succ]; omega
    have hpos : 0 < 2 ^ t := Nat.two_pow_pos t
    by_cases hod : a % 2 = 1
    · have hd : (2 ^ (t + 1) - 1) / 2 = 2 ^ t - 1 := by omega
      rw [strip_odd a e hod, strip_odd a _ hod, hd]
      exact ih (a / 2) (e / 2) (by omega) (by omega) (by omega)
    · refine ⟨t + 1, ?_⟩
      rw [strip_even a e (by omega), strip_even a _ (by omega)]
      exact ⟨rfl, rfl, h1, h2, h3⟩
theorem strip_right (t : Nat) : ∀ (a e : Nat), 2 ^ t ≤ a → a < e → e < 2 ^ (t + 1) → ∃ u, (strip (a - 2 ^ t) (e - 2 ^ t)).1 = (strip a e).1 - 2 ^ u ∧ (strip (a - 2 ^ t) (e - 2 ^ t)).2 = (strip a e).2 - 2 ^ u ∧ 2 ^ u ≤ (strip a e).1 ∧ (strip a e).1 ≤ (strip a e).2 ∧ (strip a e).2 < 2 ^ (u + 1) := by
  induction t with
  | zero => intro a e h1 h2 h3; simp at h1 h3; omega
  | succ t ih =>
    intro a e h1 h2 h3
    have hp2 : 2 ^ (t + 1) = 2 * 2 ^ t := by rw [Nat.pow_succ]; omega
    have hp3 : 2 ^ (t + 1 + 1) = 2 * 2 ^ (t + 1) := by rw [Nat.pow_succ]; omega
    by_cases hod : a % 2 = 1
    · have d1 : (a - 2 ^ (t + 1)) / 2 = a / 2 - 2 ^ t := by omega
      have d2 : (e - 2 ^ (t + 1)) / 2 = e / 2 - 2 ^ t := by omega
      rw [strip_odd a e hod, strip_odd (a - 2 ^ (t + 1)) _ (by omega), d1, d2]
      exact ih (a / 2) (e / 2) (by omega) (by omega) (by omega)
    · refine ⟨t + 1, ?_⟩
      rw [strip_even a e (by omega), strip_even (a - 2 ^ (t + 1)) _ (by omega)]
      exact ⟨rfl, rfl, h1, by simp only; omega, h3⟩
theorem strip_full (t : Nat) : strip (2 ^ t - 1) (2 ^ t - 1) = (0, 0) := by
  induction t with
  | zero => rw [strip_even _ _ rfl]
  | succ t ih =>
    have hp2 : 2 ^ (t + 1) = 2 * 2 ^ t := by rw [Nat.pow_succ]; omega
    have hpos : 0 < 2 ^ t := Nat.two_pow_pos t
    rw [strip_odd _ _ (by omega), show (2 ^ (t + 1) - 1) / 2 = 2 ^ t - 1 by omega, ih]

/-- without the beginning: both ways lead to the same -/
theorem grows_climb (d old : α) : ∀ (r : List α) (m n : Nat), 1 ≤ m → m ≤ n → (m < n ∨ ∃ t, n = 2 ^ t) → grow0 nd (m - 1) (n - 1) r.reverse = opt (growsR nd d old r m n false) := by
  intro r
  induction r with
  | nil =>
    intro m n _ _ _
    simp [grow0, growsR, opt]
  | cons x r ih =>
    intro m n hm hmn hor
    by_cases he : m = n
    · subst he
      obtain ⟨t, rfl⟩ : ∃ t, m = 2 ^ t := hor.resolve_left (by omega)
      simp only [growsR, if_true]
      cases hr : r with
      | nil => simp [grow0, opt, strip_full, climbG]
      | cons y r' =>
        rw [List.reverse_cons, List.reverse_cons]
        cases hp : r'.reverse ++ [y] with
        | nil => simp at hp
        | cons g p =>
          rw [List.cons_append, grow0, strip_full]
          cases hq : p ++ [x] with
          | nil => simp at hq
          | cons b q => simp [climbG, opt]
    · have hl := half_le n (by omega)
      have hu := half_lt n (by omega)
      have hpp := half_pos n
      have hps : 2 ^ (Nat.log2 (n - 1) + 1) = 2 * half n := by rw [Nat.pow_succ]; unfold half; omega
      have hh : half n = 2 ^ Nat.log2 (n - 1) := rfl
      rw [List.reverse_cons]
      simp only [growsR, if_neg he]
      by_cases hk : m ≤ half n
      · rw [if_pos hk]
        have hI := ih m (half n) hm hk (.inr ⟨_, hh⟩)
        obtain ⟨u, s1, s2, s3, s4, s5⟩ := strip_left (Nat.log2 (n - 1)) (m - 1) (n - 1) (by rw [← hh]; omega) (by rw [← hh]; omega) (by rw [hps]; omega)
        rw [← hh] at s1 s2
        cases hp : r.reverse with
        | nil =>
          rw [hp] at hI
          simp only [grow0] at hI
          simp only [List.nil_append, grow0, climbG]
          rw [if_neg (by have := Nat.two_pow_pos u; omega)]
          unfold opt at hI ⊢
          split at hI <;> simp_all
        | cons g p =>
          rw [hp] at hI
          simp only [grow0] at hI
          simp only [List.cons_append, grow0]
          rw [climbG_left (gL nd) (gR nd) u _ _ _ x p s3 s4 s5, s1, ← s2, hI]
          unfold opt
          split <;> simp_all [gL]
      · rw [if_neg hk]
        have hI := ih (m - half n) (n - half n) (by omega) (by omega) (.inl (by omega))
        rw [show m - half n - 1 = m - 1 - half n by omega, show n - half n - 1 = n - 1 - half n by omega] at hI
        obtain ⟨u, s1, s2, s3, s4, s5⟩ := strip_right (Nat.log2 (n - 1)) (m - 1) (n - 1) (by rw [← hh]; omega) (by omega) (by rw [hps]; omega)
        rw [← hh] at s1 s2
        cases hp : r.reverse with
        | nil =>
          rw [hp] at hI
          simp only [grow0] at hI
          simp only [List.nil_append, grow0, climbG]
          rw [if_neg (by have := Nat.two_pow_pos u; omega)]
          unfold opt at hI ⊢
          split at hI <;> simp_all
        | cons g p =>
          rw [hp] at hI
          simp only [grow0] at hI
          simp only [List.cons_append, grow0]
          rw [climbG_right (gL nd) (gR nd) u _ _ _ x p s3 s4 s5, ← s1, ← s2, hI]
          unfold opt
          split <;> simp_all [gR]

theorem pow_half (s n : Nat) (h : 2 ^ s < n) : 2 ^ s ≤ half n := by
  have h1 : s ≤ Nat.log2 (n - 1) := (Nat.le_log2 (by have := Nat.two_pow_pos s; omega)).2 (by omega)
  exact Nat.pow_le_pow_right (by decide) h1
/-- with the beginning: of a power of two -/
theorem grows_with (d old : α) (s : Nat) : ∀ (r : List α) (n : Nat), 2 ^ s ≤ n → opt (growsR nd d old r (2 ^ s) n true) = opt (growsR nd d old (r ++ [old]) (2 ^ s) n false) := by
  intro r
  induction r with
  | nil =>
    intro n hn
    by_cases he : 2 ^ s = n
    · simp [growsR, he, opt]
    · have := pow_half s n (by omega)
      simp [growsR, he, opt, this]
  | cons x r ih =>
    intro n hn
    by_cases he : 2 ^ s = n
    · simp [growsR, he, opt]
    · have hk := pow_half s n (by omega)
      have hI := ih (half n) hk
      simp only [List.cons_append, growsR, if_neg he, if_pos hk]
      unfold opt at hI ⊢
      generalize growsR nd d old r (2 ^ s) (half n) true = p at *
      generalize growsR nd d old (r ++ [old]) (2 ^ s) (half n) false = q at *
      obtain ⟨⟨p1, p2⟩, p3⟩ := p
      obtain ⟨⟨q1, q2⟩, q3⟩ := q
      cases p3 <;> cases q3 <;> simp_all
/-- with the beginning: else -/
theorem grows_with2 (d old : α) (m : Nat) (hm : ∀ s, m ≠ 2 ^ s) : ∀ (r : List α) (n : Nat), m < n → opt (growsR nd d old r m n true) = opt (growsR nd d old r m n false) := by
  intro r
  induction r with
  | nil =>
    intro n hn
    simp [growsR, opt, Nat.ne_of_lt hn]
  | cons x r ih =>
    intro n hn
    simp only [growsR, if_neg (Nat.ne_of_lt hn)]
    by_cases hk : m ≤ half n
    · have hlt : m < half n := by
        rcases Nat.lt_or_ge m (half n) with h | h
        · exact h
        · exact absurd (Nat.le_antisymm hk h) (hm _)
      have hI := ih (half n) hlt
      rw [if_pos hk, if_pos hk]
      unfold opt at hI ⊢
      generalize growsR nd d old r m (half n) true = p at *
      generalize growsR nd d old r m (half n) false = q at *
      obtain ⟨⟨p1, p2⟩, p3⟩ := p
      obtain ⟨⟨q1, q2⟩, q3⟩ := q
      cases p3 <;> cases q3 <;> simp_all
    · rw [if_neg hk, if_neg hk]
theorem and_pred (m : Nat) : ∀ (_ : 1 ≤ m), (m &&& (m - 1) = 0 ↔ ∃ s, m = 2 ^ s) := by
  induction m using Nat.strongRecOn with
  | _ m ih =>
    intro h
    by_cases he : m % 2 = 0
    · obtain ⟨j, rfl⟩ : ∃ j, m = 2 * j := ⟨m / 2, by omega⟩
      have hj := ih j (by omega) (by omega)
      have e1 : 2 * j &&& (2 * j - 1) = 2 * (j &&& (j - 1)) := by
        apply Nat.eq_of_testBit_eq
        intro i
        cases i with
        | zero => simp [Nat.testBit_zero]
        | succ i =>
          rw [Nat.testBit_and, Nat.testBit_succ, Nat.testBit_succ, Nat.testBit_succ, show 2 * j / 2 = j by omega, show (2 * j - 1) / 2 = j - 1 by omega, show 2 * (j &&& (j - 1)) / 2 = (j &&& (j - 1)) by omega, Nat.testBit_and]
      rw [e1]
      constructor
      · intro h0
        obtain ⟨s, hs⟩ := hj.1 (by omega)
        exact ⟨s + 1, by rw [Nat.pow_succ]; omega⟩
      · rintro ⟨s, hs⟩
        cases s with
        | zero => simp at hs; omega
        | succ s =>
          have := hj.2 ⟨s, by rw [Nat.pow_succ] at hs; omega⟩
          omega
    · by_cases h1 : m = 1
      · subst h1; exact ⟨fun _ => ⟨0, rfl⟩, fun _ => rfl⟩
      · have e2 : (m &&& (m - 1)).testBit 0 = false := by rw [Nat.testBit_and, Nat.testBit_zero, Nat.testBit_zero]; simp; omega
        have e1 : m &&& (m - 1) = m - 1 := by
          apply Nat.eq_of_testBit_eq
          intro i
          cases i with
          | zero => rw [e2, Nat.testBit_zero]; simp; omega
          | succ i =>
            rw [Nat.testBit_and, Nat.testBit_succ, Nat.testBit_succ, show (m - 1) / 2 = m / 2 by omega, Bool.and_self]
        rw [e1]
        constructor
        · intro h0; omega
        · rintro ⟨s, hs⟩
          cases s with
          | zero => simp at hs; omega
          | succ s => rw [Nat.pow_succ] at hs; omega
end Mvt

/- The tree by levels, plain: its root, paths and growths are the document's. -/
namespace Mvt
variable {α : Type} (nd : α → α → α) (d : α)
/-- a level up -/
def pairUp (l : List α) : List α := (List.range ((l.length + 1) / 2)).map fun j => if 2 * j + 1 < l.length then nd (l.getD (2 * j) d) (l.getD (2 * j + 1) d) else l.getD (2 * j) d
/-- the levels -/
def lv (l : List α) : Nat → List α
  | 0 => l
  | k + 1 => pairUp nd d (lv l k)
/-- the document's root -/
def rootW (l : List α) : α :=
  if _h : l.length ≤ 1 then l.getD 0 d else nd (rootW (l.take (half l.length))) (rootW (l.drop (half l.length)))
termination_by l.length
decreasing_by
  · have := half_le l.length (by omega); simp; omega
  · have := half_pos l.length; simp; omega
/-- the document's path -/
def pathW (l : List α) (i : Nat) : List α :=
  if _h : l.length ≤ 1 then [] else if i < half l.length then pathW (l.take (half l.length)) i ++ [rootW nd d (l.drop (half l.length))] else pathW (l.drop (half l.length)) (i - half l.length) ++ [rootW nd d (l.take (half l.length))]
termination_by l.length
decreasing_by
  · have := half_le l.length (by omega); simp; omega
  · have := half_pos l.length; simp; omega
/-- the document's growth -/
def growW (l : List α) (m : Nat) (wt : Bool) : List α :=
  if m = l.length then (if wt then [] else [rootW nd d l]) else
  if _h : l.length ≤ 1 then [] else if m ≤ half l.length then growW (l.take (half l.length)) m wt ++ [rootW nd d (l.drop (half l.length))] else growW (l.drop (half l.length)) (m - half l.length) false ++ [rootW nd d (l.take (half l.length))]
termination_by l.length
decreasing_by
  · have := half_le l.length (by omega); simp; omega
  · have := half_pos l.length; simp; omega
/-- what stands beside the way up: from level t on, c levels -/
def ups (l : List α) : Nat → Nat → Nat → List α
  | _, _, 0 => []
  | t, i, c + 1 => (if i ^^^ 1 < (lv nd d l t).length then [(lv nd d l t).getD (i ^^^ 1) d] else []) ++ ups l (t + 1) (i / 2) c
/-- block j of level k -/
def blk (l : List α) (k j : Nat) : List α := (l.drop (j * 2 ^ k)).take (2 ^ k)

theorem pairUp_len (l : List α) : (pairUp nd d l).length = (l.length + 1) / 2 := by simp [pairUp]
theorem pairUp_get (l : List α) (j : Nat) (h : j < (l.length + 1) / 2) : (pairUp nd d l).getD j d = if 2 * j + 1 < l.length then nd (l.getD (2 * j) d) (l.getD (2 * j + 1) d) else l.getD (2 * j) d := by
  simp [pairUp, List.getD_eq_getElem?_getD, h]
theorem half_is (k m : Nat) (h1 : 2 ^ k < m) (h2 : m ≤ 2 ^ (k + 1)) : half m = 2 ^ k := by
  unfold half
  have hp := Nat.two_pow_pos k
  have : Nat.log2 (m - 1) = k := (Nat.log2_eq_iff (by omega)).2 ⟨by omega, by omega⟩
  rw [this]
theorem lv_len (l : List α) (k j : Nat) : j < (lv nd d l k).length ↔ j * 2 ^ k < l.length := by
  induction k generalizing j with
  | zero => simp [lv]
  | succ k ih =>
    have h2 : 2 ^ (k + 1) = 2 * 2 ^ k := by rw [Nat.pow_succ]; omega
    rw [lv, pairUp_len]
    have e : j < ((lv nd d l k).length + 1) / 2 ↔ 2 * j < (lv nd d l k).length := by omega
    rw [e, ih, h2, show 2 * j * 2 ^ k = j * (2 * 2 ^ k) by rw [← Nat.mul_assoc, Nat.mul_comm 2 j]]
theorem blk_len (l : List α) (k j : Nat) : (blk l k j).length = min (2 ^ k) (l.length - j * 2 ^ k) := by simp [blk]
theorem mul_two (j p : Nat) : j * (2 * p) = 2 * j * p := by rw [← Nat.mul_assoc, Nat.mul_comm 2 j]
theorem mul_add_one (j p : Nat) : (2 * j + 1) * p = 2 * j * p + p := by rw [Nat.add_mul, Nat.one_mul]
/-- a block is two of the level below, or one -/
theorem blk_two (l : List α) (k j : Nat) (h : (2 * j + 1) * 2 ^ k < l.length) :
    ¬ (blk l (k + 1) j).length ≤ 1 ∧ half (blk l (k + 1) j).length = 2 ^ k ∧ (blk l (k + 1) j).take (2 ^ k) = blk l k (2 * j) ∧ (blk l (k + 1) j).drop (2 ^ k) = blk l k (2 * j + 1) := by
  have h2 : 2 ^ (k + 1) = 2 * 2 ^ k := by rw [Nat.pow_succ]; omega
  have hp := Nat.two_pow_pos k
  rw [mul_add_one] at h
  have hl : 2 ^ k < (blk l (k + 1) j).length ∧ (blk l (k + 1) j).length ≤ 2 ^ (k + 1) := by rw [blk_len, h2, mul_two]; omega
  refine ⟨by omega, half_is k _ hl.1 hl.2, ?_, ?_⟩
  · unfold blk
    rw [List.take_take, h2, mul_two, Nat.min_eq_left (by omega)]
  · unfold blk
    rw [List.drop_take, List.drop_drop, h2, mul_two, mul_add_one, show 2 * 2 ^ k - 2 ^ k = 2 ^ k by omega]
theorem blk_one (l : List α) (k j : Nat) (h : ¬ (2 * j + 1) * 2 ^ k < l.length) : blk l (k + 1) j = blk l k (2 * j) := by
  have h2 : 2 ^ (k + 1) = 2 * 2 ^ k := by rw [Nat.pow_succ]; omega
  rw [mul_add_one] at h
  unfold blk
  rw [h2, mul_two, List.take_of_length_le (by simp; omega), List.take_of_length_le (by simp; omega)]
theorem lv_get (l : List α) (k : Nat) : ∀ j, j < (lv nd d l k).length → (lv nd d l k).getD j d = rootW nd d (blk l k j) := by
  induction k with
  | zero =>
    intro j hj
    have hj' : j < l.length := hj
    rw [rootW, dif_pos (by rw [blk_len]; simp; omega)]
    simp [lv, blk, List.getD_eq_getElem?_getD, List.getElem?_take, List.getElem?_drop]
  | succ k ih =>
    intro j hj
    have hj2 : j < ((lv nd d l k).length + 1) / 2 := by rwa [lv, pairUp_len] at hj
    rw [lv, pairUp_get nd d _ _ hj2]
    by_cases h : (2 * j + 1) * 2 ^ k < l.length
    · have h1 := (lv_len nd d l k (2 * j + 1)).2 h
      obtain ⟨b1, b2, b3, b4⟩ := blk_two l k j h
      rw [if_pos h1, ih _ (by omega), ih _ h1, rootW.eq_1 nd d (blk l (k + 1) j), dif_neg b1, b2, b3, b4]
    · have h1 : ¬ 2 * j + 1 < (lv nd d l k).length := fun hh => h ((lv_len nd d l k (2 * j + 1)).1 hh)
      rw [if_neg h1, ih _ (by omega), blk_one l k j h]
theorem blk_top (l : List α) (K : Nat) (h : l.length ≤ 2 ^ K) : blk l K 0 = l := by
  unfold blk; rw [Nat.zero_mul, List.drop_zero, List.take_of_length_le h]
/-- the root -/
theorem root_top (l : List α) (K : Nat) (h0 : 0 < l.length) (hK : (lv nd d l K).length ≤ 1) : (lv nd d l K).getD 0 d = rootW nd d l := by
  have h1 : ¬ 1 < (lv nd d l K).length := by omega
  rw [lv_len] at h1
  rw [lv_get nd d l K 0 ((lv_len nd d l K 0).2 (by simpa using h0)), blk_top l K (by omega)]
theorem ups_snoc (l : List α) (c : Nat) : ∀ t i, ups nd d l t i (c + 1) = ups nd d l t i c ++ (if (i / 2 ^ c) ^^^ 1 < (lv nd d l (t + c)).length then [(lv nd d l (t + c)).getD ((i / 2 ^ c) ^^^ 1) d] else []) := by
  induction c with
  | zero => intro t i; simp [ups]
  | succ c ih =>
    intro t i
    rw [ups, ih (t + 1) (i / 2), ups, List.append_assoc, Nat.div_div_eq_div_mul, ← Nat.pow_succ', show t + 1 + c = t + (c + 1) by omega]
theorem xor_even (j : Nat) : (2 * j) ^^^ 1 = 2 * j + 1 := by
  apply Nat.eq_of_testBit_eq
  intro b
  cases b with
  | zero => simp [Nat.testBit_zero]
  | succ b => rw [Nat.testBit_xor, Nat.testBit_succ, Nat.testBit_succ, Nat.testBit_succ, show 2 * j / 2 = j by omega, show (2 * j + 1) / 2 = j by omega]; simp
theorem xor_odd (j : Nat) : (2 * j + 1) ^^^ 1 = 2 * j := by
  apply Nat.eq_of_testBit_eq
  intro b
  cases b with
  | zero => simp [Nat.testBit_zero]
  | succ b => rw [Nat.testBit_xor, Nat.testBit_succ, Nat.testBit_succ, Nat.testBit_succ, show 2 * j / 2 = j by omega, show (2 * j + 1) / 2 = j by omega]; simp
/-- the path -/
theorem path_ups (l : List α) (i : Nat) (hi : i < l.length) (T : Nat) : pathW nd d (blk l T (i / 2 ^ T)) (i % 2 ^ T) = ups nd d l 0 i T := by
  induction T with
  | zero =>
    rw [pathW, dif_pos (by rw [blk_len]; simp; omega)]; rfl
  | succ T ih =>
    have h2 : 2 ^ (T + 1) = 2 * 2 ^ T := by rw [Nat.pow_succ]; omega
    have hp := Nat.two_pow_pos T
    have hdm := Nat.div_add_mod i (2 ^ T)
    have hml := Nat.mod_lt i hp
    have hd2 : i / 2 ^ (T + 1) = i / 2 ^ T / 2 := by rw [Nat.pow_succ, Nat.div_div_eq_div_mul]
    have hm2 : i % 2 ^ (T + 1) = i % 2 ^ T + 2 ^ T * (i / 2 ^ T % 2) := by rw [Nat.pow_succ, Nat.mod_mul]
    rw [ups_snoc, ← ih, hd2, hm2, Nat.zero_add]
    have hlj := (lv_len nd d l T (i / 2 ^ T)).2 (by rw [Nat.mul_comm]; omega)
    generalize i / 2 ^ T = j at *
    generalize i % 2 ^ T = r at *
    rcases Nat.mod_two_eq_zero_or_one j with hj | hj
    · obtain ⟨q, rfl⟩ : ∃ q, j = 2 * q := ⟨j / 2, by omega⟩
      rw [show 2 * q / 2 = q by omega, xor_even, hj, show r + 2 ^ T * 0 = r by omega]
      by_cases h : (2 * q + 1) * 2 ^ T < l.length
      · obtain ⟨b1, b2, b3, b4⟩ := blk_two l T q h
        have h1 := (lv_len nd d l T (2 * q + 1)).2 h
        rw [if_pos h1, pathW.eq_1 nd d (blk l (T + 1) q), dif_neg b1, b2, if_pos hml, b3, b4, lv_get nd d l T _ h1]
      · have h1 : ¬ 2 * q + 1 < (lv nd d l T).length := fun hh => h ((lv_len nd d l T _).1 hh)
        rw [if_neg h1, blk_one l T q h, List.append_nil]
    · obtain ⟨q, rfl⟩ : ∃ q, j = 2 * q + 1 := ⟨j / 2, by omega⟩
      rw [show (2 * q + 1) / 2 = q by omega, xor_odd, hj, Nat.mul_one]
      have h := (lv_len nd d l T (2 * q + 1)).1 hlj
      obtain ⟨b1, b2, b3, b4⟩ := blk_two l T q h
      rw [if_pos (by omega), pathW.eq_1 nd d (blk l (T + 1) q), dif_neg b1, b2, if_neg (by omega), b3, b4, lv_get nd d l T _ (by omega), Nat.add_sub_cancel]
theorem path_all (l : List α) (i K : Nat) (hi : i < l.length) (hK : (lv nd d l K).length ≤ 1) : ups nd d l 0 i K = pathW nd d l i := by
  have h1 : ¬ 1 < (lv nd d l K).length := by omega
  rw [lv_len] at h1
  have hlt : i < 2 ^ K := by omega
  rw [← path_ups nd d l i hi K, Nat.div_eq_of_lt hlt, Nat.mod_eq_of_lt hlt, blk_top l K (by omega)]
/-- the growth -/
theorem grow_ups (l : List α) (s a m : Nat) (hm : m = (a + 1) * 2 ^ s) (ha : a % 2 = 0) (hmn : m < l.length) (c : Nat) : ∀ wt, growW nd d (blk l (s + c) (a / 2 ^ c)) (m - a / 2 ^ c * 2 ^ (s + c)) wt = (if wt = true ∧ a % 2 ^ c = 0 then [] else [(lv nd d l s).getD a d]) ++ ups nd d l s a c := by
  have hps := Nat.two_pow_pos s
  have hm1 : m = a * 2 ^ s + 2 ^ s := by rw [hm, Nat.add_mul, Nat.one_mul]
  induction c with
  | zero =>
    intro wt
    have hla := (lv_len nd d l s a).2 (by omega)
    have hbl : (blk l s a).length = 2 ^ s := by rw [blk_len]; omega
    rw [Nat.pow_zero, Nat.div_one, Nat.mod_one, Nat.add_zero, growW, if_pos (by rw [hbl]; omega), lv_get nd d l s a hla]
    cases wt <;> simp [ups]
  | succ c ih =>
    intro wt
    have h2 : 2 ^ (s + (c + 1)) = 2 * 2 ^ (s + c) := by rw [← Nat.add_assoc, Nat.pow_succ]; omega
    have hp := Nat.two_pow_pos (s + c)
    have hd2 : a / 2 ^ (c + 1) = a / 2 ^ c / 2 := by rw [Nat.pow_succ, Nat.div_div_eq_div_mul]
    have hm2 : a % 2 ^ (c + 1) = a % 2 ^ c + 2 ^ c * (a / 2 ^ c % 2) := by rw [Nat.pow_succ, Nat.mod_mul]
    have hpc := Nat.two_pow_pos c
    -- where m lies
    have hlow : a / 2 ^ c * 2 ^ (s + c) + 1 ≤ m ∧ m ≤ a / 2 ^ c * 2 ^ (s + c) + 2 ^ (s + c) := by
      have hdm := Nat.div_add_mod a (2 ^ c)
      have hml := Nat.mod_lt a hpc
      have e1 : a / 2 ^ c * 2 ^ (s + c) = (2 ^ c * (a / 2 ^ c)) * 2 ^ s := by rw [Nat.pow_add, Nat.mul_comm (2 ^ s), ← Nat.mul_assoc, Nat.mul_comm (a / 2 ^ c)]
      have e2 : 2 ^ (s + c) = 2 ^ c * 2 ^ s := by rw [Nat.pow_add, Nat.mul_comm]
      have e3 : a * 2 ^ s = (2 ^ c * (a / 2 ^ c)) * 2 ^ s + (a % 2 ^ c) * 2 ^ s := by rw [← Nat.add_mul, hdm]
      have e4 : (a % 2 ^ c) * 2 ^ s + 2 ^ s ≤ 2 ^ c * 2 ^ s := by
        have := Nat.mul_le_mul_right (2 ^ s) (show a % 2 ^ c + 1 ≤ 2 ^ c by omega)
        rwa [Nat.add_mul, Nat.one_mul] at this
      rw [e1, e2]; omega
    have hlj := (lv_len nd d l (s + c) (a / 2 ^ c)).2 (by omega)
    rw [ups_snoc, hd2, hm2, ← Nat.add_assoc s c 1]
    rw [← Nat.add_assoc s c 1] at h2
    have hodd : a / 2 ^ c % 2 = 1 → 1 ≤ c := by
      intro h
      rcases Nat.eq_zero_or_pos c with h0 | h0
      · subst h0; rw [Nat.pow_zero, Nat.div_one] at h; omega
      · exact h0
    have hnodiv : ∀ q, m ≠ (q + 1) * 2 ^ (s + c + 1) := by
      intro q h
      have : (a + 1) * 2 ^ s = (q + 1) * 2 ^ (c + 1) * 2 ^ s := by rw [← hm, h, Nat.mul_assoc, ← Nat.pow_add]; congr 2; omega
      have := Nat.eq_of_mul_eq_mul_right hps this
      rw [Nat.pow_succ, ← Nat.mul_assoc] at this
      omega
    generalize a / 2 ^ c = j at *
    generalize a % 2 ^ c = r at *
    rcases Nat.mod_two_eq_zero_or_one j with hj | hj
    · obtain ⟨q, rfl⟩ : ∃ q, j = 2 * q := ⟨j / 2, by omega⟩
      rw [show 2 * q / 2 = q by omega, xor_even, hj, show r + 2 ^ c * 0 = r by omega, h2, mul_two]
      by_cases h : (2 * q + 1) * 2 ^ (s + c) < l.length
      · obtain ⟨b1, b2, b3, b4⟩ := blk_two l (s + c) q h
        have h1 := (lv_len nd d l (s + c) (2 * q + 1)).2 h
        have hne : ¬ m - 2 * q * 2 ^ (s + c) = (blk l (s + c + 1) q).length := by
          have := b2; intro hh
          have hb := blk_len l (s + c + 1) q
          rw [mul_add_one] at h
          rw [h2, mul_two] at hb
          omega
        rw [if_pos h1, growW.eq_1 nd d (blk l (s + c + 1) q), if_neg hne, dif_neg b1, b2, if_pos (by omega), b3, b4, ih wt, lv_get nd d l (s + c) _ h1, List.append_assoc]
      · have h1 : ¬ 2 * q + 1 < (lv nd d l (s + c)).length := fun hh => h ((lv_len nd d l (s + c) _).1 hh)
        rw [if_neg h1, blk_one l (s + c) q h, List.append_nil, ih wt]
    · obtain ⟨q, rfl⟩ : ∃ q, j = 2 * q + 1 := ⟨j / 2, by omega⟩
      rw [show (2 * q + 1) / 2 = q by omega, xor_odd, hj, Nat.mul_one, h2, mul_two]
      have h := (lv_len nd d l (s + c) (2 * q + 1)).1 hlj
      obtain ⟨b1, b2, b3, b4⟩ := blk_two l (s + c) q h
      rw [mul_add_one] at hlow h
      have hne : ¬ m - 2 * q * 2 ^ (s + c) = (blk l (s + c + 1) q).length := by
        have hb := blk_len l (s + c + 1) q
        rw [h2, mul_two] at hb
        have hn := hnodiv q
        rw [h2, mul_two, show 2 * (q + 1) * 2 ^ (s + c) = 2 * q * 2 ^ (s + c) + 2 * 2 ^ (s + c) by rw [Nat.mul_add, Nat.add_mul]] at hn
        omega
      have hc0 : ¬ (wt = true ∧ r + 2 ^ c = 0) := by omega
      have hnm : ¬ m - 2 * q * 2 ^ (s + c) ≤ 2 ^ (s + c) := by omega
      have h2q : 2 * q < (lv nd d l (s + c)).length := by omega
      rw [if_neg hc0, if_pos h2q, growW.eq_1 nd d (blk l (s + c + 1) q), if_neg hne, dif_neg b1, b2, if_neg hnm, b3, b4, lv_get nd d l (s + c) _ h2q]
      have hI := ih false
      rw [if_neg (by simp), mul_add_one] at hI
      rw [Nat.sub_sub, hI, List.append_assoc]
theorem grow_all (l : List α) (s a m K : Nat) (hm : m = (a + 1) * 2 ^ s) (ha : a % 2 = 0) (hmn : m < l.length) (hK : (lv nd d l K).length ≤ 1) :
    s ≤ K ∧ growW nd d l m true = (if a = 0 then [] else [(lv nd d l s).getD a d]) ++ ups nd d l s a (K - s) := by
  have h1 : ¬ 1 < (lv nd d l K).length := by omega
  rw [lv_len] at h1
  have hps := Nat.two_pow_pos s
  have hm1 : m = a * 2 ^ s + 2 ^ s := by rw [hm, Nat.add_mul, Nat.one_mul]
  have hsK : s ≤ K := by
    rcases Nat.lt_or_ge K s with h | h
    · have := Nat.pow_le_pow_right (show 0 < 2 by decide) (Nat.le_of_lt h); omega
    · exact h
  refine ⟨hsK, ?_⟩
  have hlt : a < 2 ^ (K - s) := by
    have e : 2 ^ K = 2 ^ (K - s) * 2 ^ s := by rw [← Nat.pow_add]; congr 1; omega
    have : a * 2 ^ s < 2 ^ (K - s) * 2 ^ s := by omega
    exact Nat.lt_of_mul_lt_mul_right this
  have := grow_ups nd d l s a m hm ha hmn (K - s) true
  rw [Nat.div_eq_of_lt hlt, Nat.mod_eq_of_lt hlt, Nat.zero_mul, Nat.sub_zero, show s + (K - s) = K by omega, blk_top l K (by omega)] at this
  rw [this]
  simp
end Mvt

/- Words for memory: which blocks may have turned (Fr), a block known whole (Has), a slice that reads as a list of cells (Rd). Nothing here knows of a program. -/
namespace Go.Mv
open Go.RowKit

/-- no block that was there has turned, but those of S -/
structure Fr (S : Nat → Prop) (w w' : World) : Prop where
  os : w'.os = w.os
  tape : w'.tape = w.tape
  output : w'.output = w.output
  size : w.heap.size ≤ w'.heap.size
  block : ∀ k, k < w.heap.size → ¬ S k → w'.heap[k]? = w.heap[k]?

/-- no block at all -/
def Nob : Nat → Prop := fun _ => False
/-- one block -/
def One (g : Nat) : Nat → Prop := fun k => k = g

theorem Fr.refl (S : Nat → Prop) (w : World) : Fr S w w := ⟨rfl, rfl, rfl, Nat.le_refl _, fun _ _ _ => rfl⟩
theorem Fr.trans {S T : Nat → Prop} {a b c : World} (h : Fr S a b) (k : Fr T b c) (hT : ∀ i, i < a.heap.size → T i → S i) : Fr S a c :=
  ⟨k.os.trans h.os, k.tape.trans h.tape, k.output.trans h.output, Nat.le_trans h.size k.size,
    fun i hi hs => (k.block i (Nat.lt_of_lt_of_le hi h.size) (fun t => hs (hT i hi t))).trans (h.block i hi hs)⟩
theorem Fr.mono {S T : Nat → Prop} {a b : World} (h : Fr S a b) (hT : ∀ i, i < a.heap.size → S i → T i) : Fr T a b :=
  ⟨h.os, h.tape, h.output, h.size, fun i hi hs => h.block i hi (fun t => hs (hT i hi t))⟩
/-- two calls that turn nothing -/
theorem Fr.then {a b c : World} (h : Fr Nob a b) (k : Fr Nob b c) : Fr Nob a c := h.trans k (fun _ _ t => t)
/-- what a call did to a block that is new -/
theorem Fr.new {S : Nat → Prop} {g : Nat} {a b c : World} (h : Fr S a b) (k : Fr (One g) b c) (hg : a.heap.size ≤ g) : Fr S a c :=
  h.trans k (fun i hi t => by have : i = g := t; omega)
theorem Fr.same {S : Nat → Prop} {a b c : World} (h : Fr S a b) (k : Fr Nob b c) : Fr S a c := h.trans k (fun _ _ t => t.elim)
theorem Fr.drew {S : Nat → Prop} {a b : World} (h : Fr S a b) : Fr S a b.drew := ⟨h.os, h.tape, h.output, h.size, h.block⟩
theorem Fr.drewN {S : Nat → Prop} {a b : World} (h : Fr S a b) (n : Nat) : Fr S a (b.drewN n) := ⟨h.os, h.tape, h.output, h.size, h.block⟩
theorem Fr.alloc {S : Nat → Prop} {a b : World} (h : Fr S a b) (o : Obj) : Fr S a (b.alloc o) :=
  h.trans (T := Nob) ⟨rfl, rfl, rfl, by simp, fun k hk _ => Below.heap_alloc b o k hk⟩ (fun _ _ t => t.elim)
theorem Fr.setCell {S : Nat → Prop} {a b : World} (h : Fr S a b) (g i : Nat) (s : Option Nat) (u : Value) (hg : g < a.heap.size → S g) : Fr S a (b.setCell ⟨g, i, s⟩ u) :=
  h.trans (T := One g) ⟨rfl, rfl, rfl, by simp [World.setCell], fun k _ hk => heap_setCell_other b _ k u hk⟩ (fun i hi t => by have e : i = g := t; subst e; exact hg hi)
theorem Fr.below {a b : World} (h : Fr Nob a b) : Below a.heap.size a b := ⟨h.os, h.tape, h.output, h.size, fun k hk => h.block k hk id⟩
theorem Fr.ofBelow {a b : World} (h : Below a.heap.size a b) : Fr Nob a b := ⟨h.os, h.tape, h.output, h.size, fun k hk _ => h.block k hk⟩
theorem Fr.ofGrown {a b : World} {row : Option Nat} (h : a.grownBy b row) : Fr (fun k => row = some k) a b :=
  ⟨h.os, h.tape, h.output, h.size, fun k hk hs => h.block k hk (fun e => hs e.symm)⟩
theorem Fr.cell {S : Nat → Prop} {a b : World} (h : Fr S a b) {g i : Nat} {v : Value} (hs : ¬ S g) (hc : a.cell? ⟨g, i, none⟩ = some v) : b.cell? ⟨g, i, none⟩ = some v :=
  (World.cell?_of_block (a := ⟨g, i, none⟩) (h.block g (block_lt_of_cell hc) hs)).trans hc

/-- block g holds just the cells L, of type T, and all of them may be written -/
def Has (w : World) (g : Nat) (L : List Value) (T : TypeId) : Prop := ∃ lo hi, w.heap[g]? = some (.cells L.toArray T (lo, hi)) ∧ (lo = hi ∨ L.length ≤ lo)

theorem Has.lt {w : World} {g : Nat} {L : List Value} {T : TypeId} (h : Has w g L T) : g < w.heap.size := by
  obtain ⟨lo, hi, h, -⟩ := h
  rcases Nat.lt_or_ge g w.heap.size with k | k
  · exact k
  · simp [Array.getElem?_eq_none k] at h
theorem Has.get {w : World} {g : Nat} {L : List Value} {T : TypeId} (h : Has w g L T) (i : Nat) : w.cell? ⟨g, i, none⟩ = L[i]? := by
  obtain ⟨lo, hi, h, -⟩ := h
  rw [cell_of_row w g i _ T _ h]; simp
theorem Has.cell {w : World} {g : Nat} {L : List Value} {T : TypeId} (h : Has w g L T) {i : Nat} {v : Value} (hv : L[i]? = some v) : w.cell? ⟨g, i, none⟩ = some v := (h.get i).trans hv
theorem Has.free {w : World} {g : Nat} {L : List Value} {T : TypeId} (h : Has w g L T) (i : Nat) (hi : i < L.length) : w.frozen? ⟨g, i, none⟩ = false := by
  obtain ⟨lo, hi', h, k⟩ := h
  simp only [World.frozen?, h]
  rcases k with rfl | k
  · simp <;> omega
  · simp <;> omega
/-- a cell that may be written -/
theorem Has.ready {w : World} {g : Nat} {L : List Value} {T : TypeId} (h : Has w g L T) {i : Nat} (hi : i < L.length) : ∃ v, w.cell? ⟨g, i, none⟩ = some v ∧ w.frozen? ⟨g, i, none⟩ = false :=
  ⟨L[i], h.cell (List.getElem?_eq_getElem hi), h.free i hi⟩
theorem Has.keep {S : Nat → Prop} {w w' : World} {g : Nat} {L : List Value} {T : TypeId} (h : Has w g L T) (hf : Fr S w w') (hs : ¬ S g) : Has w' g L T := by
  have hl := h.lt
  obtain ⟨lo, hi, h, k⟩ := h
  exact ⟨lo, hi, (hf.block g hl hs).trans h, k⟩
theorem Has.set {w : World} {g : Nat} {L : List Value} {T : TypeId} (h : Has w g L T) (i : Nat) (v : Value) : Has (w.setCell ⟨g, i, none⟩ v) g (L.set i v) T := by
  have hl := h.lt
  obtain ⟨lo, hi, h, k⟩ := h
  refine ⟨lo, hi, ?_, by simpa using k⟩
  simp only [World.setCell, Array.getElem?_modify, if_true]
  simp [h]
theorem Has.other {w : World} {g g' : Nat} {L : List Value} {T : TypeId} (h : Has w g L T) (i : Nat) (s : Option Nat) (v : Value) (hn : g ≠ g') : Has (w.setCell ⟨g', i, s⟩ v) g L T := by
  obtain ⟨lo, hi, h, k⟩ := h
  exact ⟨lo, hi, (heap_setCell_other w ⟨g', i, s⟩ g v hn).trans h, k⟩
theorem Has.new (w : World) (L : Array Value) (T : TypeId) : Has (w.alloc (.cells L T)) w.heap.size L.toList T :=
  ⟨0, 0, by have := heap_alloc_new w (.cells L T); simpa using this, .inl rfl⟩
theorem Has.alloc {w : World} {g : Nat} {L : List Value} {T : TypeId} (h : Has w g L T) (o : Obj) : Has (w.alloc o) g L T := by
  have hl := h.lt
  obtain ⟨lo, hi, h, k⟩ := h
  exact ⟨lo, hi, (Below.heap_alloc w o g hl).trans h, k⟩
theorem Has.drew {w : World} {g : Nat} {L : List Value} {T : TypeId} (h : Has w g L T) : Has w.drew g L T := h
theorem Has.drewN {w : World} {g : Nat} {L : List Value} {T : TypeId} (h : Has w g L T) (n : Nat) : Has (w.drewN n) g L T := h

/-- the cells vs lie in block b from place o on -/
def At (w : World) (b o : Nat) (vs : List Value) : Prop := ∀ i v, vs[i]? = some v → w.cell? ⟨b, o + i, none⟩ = some v
/-- n cells at a read as vs (where there is none: whatever a) -/
def Rd (w : World) (a : Option Addr) (n : Nat) (vs : List Value) : Prop := vs.length = n ∧ (n = 0 ∨ ∃ b o, a = some ⟨b, o, none⟩ ∧ At w b o vs)
/-- the block of a, if it has one, is not in S -/
def Off (S : Nat → Prop) (a : Option Addr) : Prop := ∀ x, a = some x → ¬ S x.block

theorem Off.nob (a : Option Addr) : Off Nob a := fun _ _ h => h
theorem At.keep {S : Nat → Prop} {w w' : World} {b o : Nat} {vs : List Value} (h : At w b o vs) (hf : Fr S w w') (hs : ¬ S b) : At w' b o vs :=
  fun i v hv => hf.cell hs (h i v hv)
theorem Rd.keep {S : Nat → Prop} {w w' : World} {a : Option Addr} {n : Nat} {vs : List Value} (h : Rd w a n vs) (hf : Fr S w w') (hs : Off S a) : Rd w' a n vs := by
  refine ⟨h.1, h.2.imp id ?_⟩
  rintro ⟨b, o, rfl, ha⟩
  exact ⟨b, o, rfl, ha.keep hf (hs _ rfl)⟩
theorem Rd.still {w w' : World} {a : Option Addr} {n : Nat} {vs : List Value} (h : Rd w a n vs) (hf : Fr Nob w w') : Rd w' a n vs := h.keep hf (Off.nob a)
theorem Rd.nil (w : World) (a : Option Addr) : Rd w a 0 [] := ⟨rfl, .inl rfl⟩
theorem Rd.len {w : World} {a : Option Addr} {n : Nat} {vs : List Value} (h : Rd w a n vs) : vs.length = n := h.1
theorem Rd.at {w : World} {a : Option Addr} {n : Nat} {vs : List Value} (h : Rd w a n vs) (hn : 0 < n) : ∃ b o, a = some ⟨b, o, none⟩ ∧ At w b o vs := h.2.resolve_left (by omega)
theorem Rd.ofHas {w : World} {g n : Nat} {L : List Value} {T : TypeId} (h : Has w g L T) (o : Nat) (hn : o + n ≤ L.length) : Rd w (some ⟨g, o, none⟩) n ((L.drop o).take n) := by
  refine ⟨by simp; omega, .inr ⟨g, o, rfl, fun i v hv => ?_⟩⟩
  rw [h.get]
  rw [List.getElem?_take] at hv
  split at hv
  · simpa using hv
  · cases hv
theorem Rd.whole {w : World} {g : Nat} {L : List Value} {T : TypeId} (h : Has w g L T) : Rd w (some ⟨g, 0, none⟩) L.length L := by
  simpa using Rd.ofHas h 0 (n := L.length) (by simp)
theorem At.cell {w : World} {b o : Nat} {vs : List Value} (h : At w b o vs) {i : Nat} (hi : i < vs.length) : w.cell? ⟨b, o + i, none⟩ = some (vs.getD i undef) :=
  h i _ (by simp [List.getD_eq_getElem?_getD, List.getElem?_eq_getElem hi])
/-- a piece of a slice -/
theorem At.sub {w : World} {b o : Nat} {vs : List Value} (h : At w b o vs) (k n : Nat) : At w b (o + k) ((vs.drop k).take n) := by
  intro i v hv
  rw [Nat.add_assoc]
  refine h (k + i) v ?_
  rw [List.getElem?_take] at hv
  split at hv
  · simpa using hv
  · cases hv

/-- bytes, as cells -/
def bs (l : List UInt8) : List Value := l.map fun x => .int .u8 (x.toNat : Int)
theorem length_bs (l : List UInt8) : (bs l).length = l.length := by simp [bs]
theorem bs_append (l m : List UInt8) : bs (l ++ m) = bs l ++ bs m := by simp [bs]
theorem bs_take (l : List UInt8) (n : Nat) : (bs l).take n = bs (l.take n) := by simp [bs]
theorem bs_drop (l : List UInt8) (n : Nat) : (bs l).drop n = bs (l.drop n) := by simp [bs]
theorem bs_get (l : List UInt8) (i : Nat) (hi : i < l.length) : (bs l)[i]? = some (.int .u8 ((l.getD i 0).toNat : Int)) := by
  simp [bs, List.getElem?_eq_getElem hi, List.getD_eq_getElem?_getD]
theorem bs_set (l : List UInt8) (i : Nat) (x : UInt8) : (bs l).set i (.int .u8 (x.toNat : Int)) = bs (l.set i x) := by simp [bs]
theorem bs_one (l : List UInt8) : ∀ v ∈ bs l, v.oneCell' = true := by intro v hv; simp [bs] at hv; obtain ⟨x, _, rfl⟩ := hv; rfl

/-- a slice of bytes reads as l -/
def RdB (w : World) (a : Option Addr) (n : Nat) (l : List UInt8) : Prop := Rd w a n (bs l)
theorem RdB.len {w : World} {a : Option Addr} {n : Nat} {l : List UInt8} (h : RdB w a n l) : l.length = n := by have := h.1; rwa [length_bs] at this
theorem RdB.at {w : World} {a : Option Addr} {n : Nat} {l : List UInt8} (h : RdB w a n l) (hn : 0 < n) : ∃ b o, a = some ⟨b, o, none⟩ ∧ ∀ i, i < n → w.cell? ⟨b, o + i, none⟩ = some (.int .u8 ((l.getD i 0).toNat : Int)) := by
  obtain ⟨b, o, ha, hc⟩ := Rd.at h hn
  exact ⟨b, o, ha, fun i hi => hc i _ (bs_get l i (by rw [h.len]; exact hi))⟩
theorem RdB.still {w w' : World} {a : Option Addr} {n : Nat} {l : List UInt8} (h : RdB w a n l) (hf : Fr Nob w w') : RdB w' a n l := Rd.still h hf
theorem RdB.keep {S : Nat → Prop} {w w' : World} {a : Option Addr} {n : Nat} {l : List UInt8} (h : RdB w a n l) (hf : Fr S w w') (hs : Off S a) : RdB w' a n l := Rd.keep h hf hs
theorem RdB.nil (w : World) (a : Option Addr) : RdB w a 0 [] := Rd.nil w a
/-- a block that is new since w -/
def New (w : World) (a : Option Addr) : Prop := ∀ x, a = some x → w.heap.size ≤ x.block

theorem byte_lt (x : UInt8) : (x.toNat : Int) < 256 := by have := x.toNat_lt; omega

/-- words of 64 bits, as cells -/
def ws (l : List UInt64) : List Value := l.map fun x => .int .u64 (x.toNat : Int)
theorem length_ws (l : List UInt64) : (ws l).length = l.length := by simp [ws]
theorem ws_get (l : List UInt64) (i : Nat) (hi : i < l.length) : (ws l)[i]? = some (.int .u64 ((l.getD i 0).toNat : Int)) := by
  simp [ws, List.getElem?_eq_getElem hi, List.getD_eq_getElem?_getD]
theorem ws_set (l : List UInt64) (i : Nat) (x : UInt64) : (ws l).set i (.int .u64 (x.toNat : Int)) = ws (l.set i x) := by simp [ws]
theorem ws_one (l : List UInt64) : ∀ v ∈ ws l, v.oneCell' = true := by intro v hv; simp [ws] at hv; obtain ⟨x, _, rfl⟩ := hv; rfl
/-- ints, as cells -/
def is (l : List Nat) : List Value := l.map fun (x : Nat) => .int .i64 (x : Int)
theorem length_is (l : List Nat) : (is l).length = l.length := by simp [is]
theorem is_get (l : List Nat) (i : Nat) (hi : i < l.length) : (is l)[i]? = some (.int .i64 ((l.getD i 0 : Nat) : Int)) := by
  simp [is, List.getElem?_eq_getElem hi, List.getD_eq_getElem?_getD]
theorem is_set (l : List Nat) (i : Nat) (x : Nat) : (is l).set i (.int .i64 (x : Int)) = is (l.set i x) := by simp [is]
end Go.Mv

/- Laws of the walk for make, copy, append and conversions, over the words of Mem. Nothing here knows of a program. -/
namespace Go.Mv
open Go.RowKit
variable {P : Program}

theorem addr_add (g o i : Nat) : (⟨g, o, none⟩ : Addr).add i = ⟨g, o + i, none⟩ := by unfold Addr.add; split <;> simp_all

theorem splice_nil (L : List Value) (o : Nat) : splice L o [] = L := by simp [splice]
theorem splice_cons (L : List Value) (o : Nat) (v : Value) (vs : List Value) (h : o < L.length) : splice (L.set o v) (o + 1) vs = splice L o (v :: vs) := by
  unfold splice
  have e1 : (L.set o v).take (o + 1) = L.take o ++ [v] := by
    rw [List.take_set, List.take_succ_eq_append_getElem h, List.set_append_right _ _ (by simp; omega), List.length_take, Nat.min_eq_left (Nat.le_of_lt h), Nat.sub_self]
    rfl
  have e2 : (L.set o v).drop (o + 1 + vs.length) = L.drop (o + 1 + vs.length) := by rw [List.drop_set, if_pos (by omega)]
  rw [e1, e2]
  simp [Nat.add_comm, Nat.add_left_comm]

theorem run_store_has {w : World} {g : Nat} {L : List Value} {T : TypeId} (h : Has w g L T) (i : Nat) (hi : i < L.length) (v : Value) (hv : v.oneCell' = true) :
    (store ⟨g, i, none⟩ v).run P w = .ok () (w.setCell ⟨g, i, none⟩ v) := by
  rw [run_store P w _ v _ hv, h.cell (List.getElem?_eq_getElem hi)]
  simp [h.free i hi]

theorem run_storeCells_has (g o : Nat) (T : TypeId) : ∀ (vs : List Value) (i : Nat) (L : List Value) (w : World), Has w g L T → o + i + vs.length ≤ L.length → (∀ v ∈ vs, v.oneCell' = true) →
    ∃ w', (storeCells ⟨g, o, none⟩ vs i).run P w = .ok () w' ∧ Has w' g (splice L (o + i) vs) T ∧ Fr (One g) w w' ∧ w'.heap.size = w.heap.size
  | [], i, L, w, h, _, _ => ⟨w, rfl, by rw [splice_nil]; exact h, Fr.refl _ _, rfl⟩
  | v :: vs, i, L, w, h, hl, h1 => by
    have hi : o + i < L.length := by simp at hl; omega
    obtain ⟨w', hr, hh, hf, hz⟩ := run_storeCells_has g o T vs (i + 1) (L.set (o + i) v) (w.setCell ⟨g, o + i, none⟩ v) (h.set _ _) (by simp at hl ⊢; omega) (fun x hx => h1 x (by simp [hx]))
    refine ⟨w', ?_, ?_, ?_, ?_⟩
    · simp only [storeCells, Sem.run_bind, addr_add, run_store_has h (o + i) hi v (h1 v (by simp)), Result.andThen_ok, hr]
    · rw [← splice_cons L (o + i) v vs hi]; exact hh
    · exact ((Fr.refl (One g) w).setCell g (o + i) none v (fun _ => rfl)).trans hf (fun _ _ t => t)
    · rw [hz]; simp [World.setCell]

theorem At.add {w : World} {b o : Nat} {vs : List Value} (h : At w b o vs) : ∀ j u, vs[j]? = some u → w.cell? ((⟨b, o, none⟩ : Addr).add j) = some u := fun j u hu => by
  rw [addr_add]; exact h j u hu

/-- the first cells of a slice that reads as vs -/
theorem run_firstCells_rd {w : World} {a : Option Addr} {vs : List Value} (size n m c : Nat) (h : At w (a.getD ⟨0, 0, none⟩).block (a.getD ⟨0, 0, none⟩).off (vs.take (n * size)) ∨ n * size = 0) (ha : 0 < n * size → ∃ b o, a = some ⟨b, o, none⟩) (hl : n * size ≤ vs.length) :
    (Builtin.firstCells size n (.slice a m c)).run P w = .ok (vs.take (n * size)).toArray w := by
  rcases Nat.eq_zero_or_pos (n * size) with h0 | h0
  · rw [h0]
    cases a with
    | none => simp [Builtin.firstCells]
    | some ad => simp [Builtin.firstCells, h0, loadCells, loadCellsFrom]
  · obtain ⟨b, o, rfl⟩ := ha h0
    have h := h.resolve_right (by omega)
    exact run_firstCells_some (P := P) w size n ⟨b, o, none⟩ m c (vs.take (n * size)) (by simp; omega) h.add

theorem run_firstCells_Rd {w : World} {a : Option Addr} {k : Nat} {vs : List Value} (h : Rd w a k vs) (size n m c : Nat) (hl : n * size ≤ k) :
    (Builtin.firstCells size n (.slice a m c)).run P w = .ok (vs.take (n * size)).toArray w := by
  refine run_firstCells_rd size n m c ?_ ?_ (by rw [h.len]; exact hl)
  · rcases Nat.eq_zero_or_pos (n * size) with h0 | h0
    · exact .inr h0
    · obtain ⟨b, o, rfl, hc⟩ := h.at (by omega)
      refine .inl fun i v hv => hc i v ?_
      rw [List.getElem?_take] at hv
      split at hv
      · exact hv
      · cases hv
  · intro h0
    obtain ⟨b, o, rfl, _⟩ := h.at (by omega)
    exact ⟨b, o, rfl⟩

/-- a slice that the call owns: nil, or n elements (sz cells each) from place o on in a block from base on, which is known whole as far as the capacity goes -/
def Own (w : World) (base : Nat) (T : TypeId) (sz : Nat) (v : Value) (n : Nat) (L : List Value) : Prop :=
  L.length = n * sz ∧ ((v = .slice none 0 0 ∧ n = 0) ∨
    ∃ g o cap B, v = .slice (some ⟨g, o, none⟩) n cap ∧ base ≤ g ∧ Has w g B T ∧ n ≤ cap ∧ cap ≤ maxLen ∧ o + cap * sz ≤ B.length ∧ (B.drop o).take (n * sz) = L)
/-- the block of an owned slice -/
def OwnB (v : Value) : Nat → Prop := fun k => v.ownBlock = some k

theorem Own.nil (w : World) (base : Nat) (T : TypeId) (sz : Nat) : Own w base T sz (.slice none 0 0) 0 [] := ⟨by simp, .inl ⟨rfl, rfl⟩⟩
theorem Own.lt {w : World} {base : Nat} {T : TypeId} {sz : Nat} {v : Value} {n : Nat} {L : List Value} (h : Own w base T sz v n L) {k : Nat} (hk : OwnB v k) : base ≤ k ∧ k < w.heap.size := by
  rcases h.2 with ⟨rfl, _⟩ | ⟨g, o, cap, B, rfl, hb, hh, _⟩
  · cases hk
  · have : g = k := by simpa [OwnB, Value.ownBlock] using hk
    subst this
    exact ⟨hb, hh.lt⟩
theorem Own.keep {S : Nat → Prop} {w w' : World} {base : Nat} {T : TypeId} {sz : Nat} {v : Value} {n : Nat} {L : List Value} (h : Own w base T sz v n L) (hf : Fr S w w') (hs : ∀ k, OwnB v k → ¬ S k) : Own w' base T sz v n L := by
  refine ⟨h.1, h.2.imp id ?_⟩
  rintro ⟨g, o, cap, B, rfl, hb, hh, r⟩
  exact ⟨g, o, cap, B, rfl, hb, hh.keep hf (hs g rfl), r⟩
theorem Own.still {w w' : World} {base : Nat} {T : TypeId} {sz : Nat} {v : Value} {n : Nat} {L : List Value} (h : Own w base T sz v n L) (hf : Fr Nob w w') : Own w' base T sz v n L := h.keep hf (fun _ _ t => t)
theorem Own.mono {w : World} {base base' : Nat} {T : TypeId} {sz : Nat} {v : Value} {n : Nat} {L : List Value} (h : Own w base T sz v n L) (hb : base' ≤ base) : Own w base' T sz v n L := by
  refine ⟨h.1, h.2.imp id ?_⟩
  rintro ⟨g, o, cap, B, rfl, hb', r⟩
  exact ⟨g, o, cap, B, rfl, Nat.le_trans hb hb', r⟩
theorem Own.form {w : World} {base : Nat} {T : TypeId} {sz : Nat} {v : Value} {n : Nat} {L : List Value} (h : Own w base T sz v n L) : ∃ a cap, v = .slice a n cap ∧ n ≤ cap ∧ Rd w a (n * sz) L ∧ (∀ x, a = some x → base ≤ x.block) := by
  rcases h.2 with ⟨rfl, rfl⟩ | ⟨g, o, cap, B, rfl, hb, hh, hn, hm, hl, ht⟩
  · refine ⟨none, 0, rfl, Nat.le_refl _, ⟨by simpa using h.1, .inl (by simp)⟩, by simp⟩
  · have hle : n * sz ≤ cap * sz := Nat.mul_le_mul_right _ hn
    refine ⟨_, cap, rfl, hn, ?_, by simpa using hb⟩
    rw [← ht]
    exact Rd.ofHas hh o (by omega)
theorem Own.made {w : World} {g : Nat} {T : TypeId} {B : List Value} (h : Has w g B T) (base : Nat) (hb : base ≤ g) (sz n cap : Nat) (hn : n ≤ cap) (hm : cap ≤ maxLen) (hl : cap * sz ≤ B.length) :
    Own w base T sz (.slice (some ⟨g, 0, none⟩) n cap) n (B.take (n * sz)) := by
  have hle : n * sz ≤ cap * sz := Nat.mul_le_mul_right _ hn
  exact ⟨by simp; omega, .inr ⟨g, 0, cap, B, rfl, hb, h, hn, hm, by omega, by simp⟩⟩
/-- behind a step that wrote to an owned block alone -/
theorem Own.fr {S : Nat → Prop} {w0 w w' : World} {base : Nat} {T : TypeId} {sz : Nat} {v : Value} {n : Nat} {L : List Value} (h : Own w base T sz v n L) (hf : Fr S w0 w) (hb : w0.heap.size ≤ base) (k : Fr (OwnB v) w w') : Fr S w0 w' :=
  hf.trans k (fun _ hi t => by have := (h.lt t).1; omega)

theorem splice_length (L : List Value) (o : Nat) (vs : List Value) (h : o + vs.length ≤ L.length) : (splice L o vs).length = L.length := length_splice L o vs h
theorem splice_take (L : List Value) (o k : Nat) (vs : List Value) (h : o + k + vs.length ≤ L.length) : ((splice L (o + k) vs).drop o).take (k + vs.length) = (L.drop o).take k ++ vs := by
  unfold splice
  have h1 : (L.take (o + k)).drop o = (L.drop o).take k := by rw [List.drop_take]; congr 1; omega
  rw [List.drop_append_of_le_length (by simp; omega), h1]
  rw [← List.append_assoc]
  exact List.take_left' (by simp; omega)

theorem run_append_room2 {w : World} (t ty e : TypeId) (i : TypeInfo) (ht : P.underlying t = some (.slice e)) (hi : P.info? e = some i)
    (g o sLen sCap : Nat) (B : List Value) (T : TypeId) (hg : Has w g B T) (a : Option Addr) (m c : Nat) (news : List Value) (hnews : Rd w a (m * i.size) news) (h1 : ∀ u ∈ news, u.oneCell' = true)
    (hroom : sLen + m ≤ sCap) (hfit : o + sLen * i.size + news.length ≤ B.length) :
    ∃ w', (Builtin.append_ #[t, t] ty #[.slice (some ⟨g, o, none⟩) sLen sCap, .slice a m c]).run P w = .ok (.slice (some ⟨g, o, none⟩) (sLen + m) sCap) w' ∧
      Has w' g (splice B (o + sLen * i.size) news) T ∧ Fr (One g) w w' ∧ w'.heap.size = w.heap.size := by
  have hf := run_firstCells_Rd (P := P) hnews i.size m m c (Nat.le_refl _)
  rw [List.take_of_length_le (by rw [hnews.len]; exact Nat.le_refl _)] at hf
  obtain ⟨w', hst, hh, hfr, hz⟩ := run_storeCells_has (P := P) g (o + sLen * i.size) T news 0 B w hg (by omega) h1
  simp only [Nat.add_zero] at hh
  refine ⟨w', ?_, hh, hfr, hz⟩
  simp [Builtin.append_, run_underlying ht, sizeOf, typeInfo, hi, Builtin.lenOf, hroom, hf, addr_add, hst]

theorem run_append_zero {w : World} (t ty e : TypeId) (i : TypeInfo) (ht : P.underlying t = some (.slice e)) (hi : P.info? e = some i) (s : Option Addr) (sLen sCap : Nat) (hl : sLen ≤ sCap) (a : Option Addr) (c : Nat) :
    (Builtin.append_ #[t, t] ty #[.slice s sLen sCap, .slice a 0 c]).run P w = .ok (.slice s sLen sCap) w := by
  have hf : (Builtin.firstCells i.size 0 (.slice a 0 c)).run P w = .ok #[] w := by
    cases a <;> simp [Builtin.firstCells, loadCells, loadCellsFrom]
  cases s <;> simp [Builtin.append_, run_underlying ht, sizeOf, typeInfo, hi, Builtin.lenOf, hl, hf, storeCells]

theorem run_append2 {w : World} (base : Nat) (t ty e : TypeId) (z : Value) (sz by_ : Nat) (ht : P.underlying t = some (.slice e)) (hi0 : (P.info? e).map (fun i => (i.zero, i.size, i.bytes)) = some (some z, sz, by_))
    (hzs : z.cells.size = sz) (hsz : 0 < sz)
    (v : Value) (n : Nat) (L : List Value) (hown : Own w base e sz v n L)
    (a : Option Addr) (m c : Nat) (news : List Value) (hnews : Rd w a (m * sz) news) (h1 : ∀ u ∈ news, u.oneCell' = true)
    (h63 : n + m ≤ maxLen) (hbytes : (n + m) * by_ ≤ 140737488355328) (hbase : base ≤ w.heap.size) :
    ∃ v' w', (Builtin.append_ #[t, t] ty #[v, .slice a m c]).run P w = .ok v' w' ∧ Own w' base e sz v' (n + m) (L ++ news) ∧ Fr (OwnB v) w w' ∧
      (v'.ownBlock = v.ownBlock ∨ v'.ownBlock = some w.heap.size) := by
  obtain ⟨i, hi, hz, hsize, hby⟩ := info_parts hi0
  subst hsize
  subst hby
  rcases Nat.eq_zero_or_pos m with rfl | hm
  · obtain ⟨s, cap, rfl, hc, -, -⟩ := hown.form
    have hn : news = [] := List.eq_nil_of_length_eq_zero (by rw [hnews.len]; simp)
    subst hn
    exact ⟨_, w, run_append_zero t ty e i ht hi s n cap hc a c, by simpa using hown, Fr.refl _ _, .inl rfl⟩
  have hms : 0 < m * i.size := Nat.mul_pos hm hsz
  obtain ⟨b, o', rfl, hat⟩ := hnews.at hms
  have hlen : (L ++ news).length = (n + m) * i.size := by rw [List.length_append, hown.1, hnews.len, Nat.add_mul]
  have hsmall : n + m ≤ 9223372036854775807 := by simp only [maxLen] at h63; omega
  have grown : ∀ (old : Nat), old < n + m →
      Own (w.drew.alloc (.cells (L.toArray ++ news.toArray ++ Builtin.zeroCells z.cells (grownCap w (n + m) old e - (n + m))) e)) base e i.size
        (.slice (some ⟨w.heap.size, 0, none⟩) (n + m) (grownCap w (n + m) old e)) (n + m) (L ++ news) ∧
      Fr (OwnB v) w (w.drew.alloc (.cells (L.toArray ++ news.toArray ++ Builtin.zeroCells z.cells (grownCap w (n + m) old e - (n + m))) e)) := by
    intro old ho
    have hge := grownCap_ge w (n + m) old e
    have hcm : grownCap w (n + m) old e ≤ maxLen := grownCap_le_maxLen w (n + m) old e h63
    have hz' : (Builtin.zeroCells z.cells (grownCap w (n + m) old e - (n + m))).size = (grownCap w (n + m) old e - (n + m)) * i.size := by simp [size_zeroCells, hzs]
    have hmul : (n + m) * i.size + (grownCap w (n + m) old e - (n + m)) * i.size = grownCap w (n + m) old e * i.size := by rw [← Nat.add_mul]; congr 1; omega
    refine ⟨⟨hlen, .inr ⟨w.heap.size, 0, _, _, rfl, hbase, Has.new w.drew _ e, hge, hcm, ?_, ?_⟩⟩, ((Fr.refl _ w).drew).alloc _⟩
    · rw [List.length_append] at hlen
      simp only [Array.toList_append, List.length_append, Array.length_toList, hz', Nat.zero_add]
      omega
    · simp only [Array.toList_append, List.drop_zero]
      rw [← hlen]
      exact List.take_left
  rcases hown.2 with ⟨rfl, rfl⟩ | ⟨g, o, cap, B, rfl, hbg, hg, hnc, hcm, hl, htake⟩
  · have hx : L = [] := List.eq_nil_of_length_eq_zero (by simpa using hown.1)
    subst hx
    have hr := run_append_nil (P := P) w t ty e i z ht hi hz ⟨b, o', none⟩ m c news hnews.len hat.add hm (by omega) (by have hb := hbytes; simp only [Nat.zero_add] at hb; omega)
    have hgr := grown 0 (by omega)
    simp only [Nat.zero_add, List.nil_append, Array.empty_append] at hgr ⊢
    exact ⟨_, _, hr, hgr.1, hgr.2, .inr rfl⟩
  · by_cases hroom : n + m ≤ cap
    · have hle : (n + m) * i.size ≤ cap * i.size := Nat.mul_le_mul_right _ hroom
      have hnl := hnews.len
      have hfit : o + n * i.size + news.length ≤ B.length := by rw [Nat.add_mul] at hle; omega
      obtain ⟨w', hr, hh, hf, hzz⟩ := run_append_room2 (P := P) t ty e i ht hi g o n cap B e hg _ m c news hnews h1 hroom hfit
      refine ⟨_, _, hr, ⟨hlen, .inr ⟨g, o, cap, _, rfl, hbg, hh, hroom, hcm, ?_, ?_⟩⟩, hf.mono (fun k _ t => by have e : k = g := t; subst e; rfl), .inl rfl⟩
      · rw [splice_length _ _ _ hfit]; exact hl
      · have := splice_take B o (n * i.size) news hfit
        rw [htake] at this
        rw [← this, hnl, Nat.add_mul]
    · have hle : n * i.size ≤ cap * i.size := Nat.mul_le_mul_right _ hnc
      have hrd : Rd w (some ⟨g, o, none⟩) (n * i.size) L := by rw [← htake]; exact Rd.ofHas hg o (by omega)
      have holds : ∀ j u, L[j]? = some u → w.cell? ((⟨g, o, none⟩ : Addr).add j) = some u := by
        rcases Nat.eq_zero_or_pos (n * i.size) with h0 | h0
        · have : L = [] := List.eq_nil_of_length_eq_zero (by rw [hown.1, h0])
          subst this; intro j u hu; simp at hu
        · obtain ⟨b2, o2, he, hc2⟩ := hrd.at h0
          simp only [Option.some.injEq, Addr.mk.injEq] at he
          obtain ⟨rfl, rfl, -⟩ := he
          exact hc2.add
      have hr := run_append_grow (P := P) w t ty e i z ht hi hz ⟨g, o, none⟩ n cap L hown.1 holds ⟨b, o', none⟩ m c news hnews.len hat.add (by omega) (by omega) (growslice_fits (by omega) hbytes)
      have hgr := grown cap (by omega)
      exact ⟨_, _, hr, hgr.1, hgr.2, .inr rfl⟩

/-- the bytes of a string, as cells -/
theorem bs_data (s : ByteArray) : bs s.data.toList = (s.data.map fun b => Value.int .u8 b.toNat).toList := by simp [bs]
theorem bs_arr (s : ByteArray) : (s.data.map fun b => Value.int .u8 b.toNat) = (bs s.data.toList).toArray := by apply Array.ext'; simp [bs]
theorem bs_len (s : ByteArray) : (bs s.data.toList).length = s.size := by simp [bs]

/-- append of a string onto an owned slice of bytes -/
theorem run_append_str {w : World} (base : Nat) (t u ty e : TypeId) (ht : P.underlying t = some (.slice e)) (hu : P.underlying u = some .string) (hi0 : (P.info? e).map (fun i => (i.zero, i.size, i.bytes)) = some (some (.int .u8 0), 1, 1))
    (v : Value) (n : Nat) (L : List Value) (hown : Own w base e 1 v n L) (s : ByteArray) (h63 : n + s.size ≤ maxLen) (hbytes : n + s.size ≤ 140737488355328) (hbase : base ≤ w.heap.size) :
    ∃ v' w', (Builtin.append_ #[t, u] ty #[v, .string s]).run P w = .ok v' w' ∧ Own w' base e 1 v' (n + s.size) (L ++ bs s.data.toList) ∧ Fr (OwnB v) w w' ∧
      (v'.ownBlock = v.ownBlock ∨ v'.ownBlock = some w.heap.size) := by
  obtain ⟨i, hi, hz, hsize, hby⟩ := info_parts hi0
  have hx : s.extract 0 s.size = s := by ext1; simp
  have hfc : (Builtin.firstCells 1 s.size (.string s)).run P w = .ok (bs s.data.toList).toArray w := by
    simp [Builtin.firstCells, hx, bs_arr]
  have hlen : (L ++ bs s.data.toList).length = (n + s.size) * 1 := by rw [List.length_append, hown.1, bs_len]; omega
  have hsmall : ¬ (9223372036854775807 < ((n + s.size : Nat) : Int)) := by simp only [maxLen] at h63; omega
  rcases hown.2 with ⟨rfl, rfl⟩ | ⟨g, o, cap, B, rfl, hbg, hg, hnc, hcm, hl, htake⟩
  · have hLn : L = [] := List.eq_nil_of_length_eq_zero (by simpa using hown.1)
    subst hLn
    rcases Nat.eq_zero_or_pos s.size with h0 | h0
    · have hsn : bs s.data.toList = [] := List.eq_nil_of_length_eq_zero (by rw [bs_len, h0])
      refine ⟨.slice none 0 0, w, ?_, by rw [hsn, h0]; exact Own.nil w base e 1, Fr.refl _ _, .inl rfl⟩
      rw [h0, hsn] at hfc
      simp [Builtin.append_, run_underlying ht, run_underlying hu, sizeOf, typeInfo, hi, Builtin.lenOf, h0, hsize, hfc]
    · have hr := run_append_nil_string (P := P) w t u ty e i (.int .u8 0) ht hu hi hz s h0 (by omega) (by rw [hby]; omega)
      rw [Nat.zero_add] at *
      refine ⟨_, _, hr, ⟨hlen, .inr ⟨w.heap.size, 0, _, _, rfl, hbase, Has.new w.drew _ e, by have := grownCap_ge w s.size 0 e; omega, grownCap_le_maxLen w s.size 0 e (by omega), ?_, ?_⟩⟩, ((Fr.refl _ w).drew).alloc _, .inr rfl⟩
      · have := grownCap_ge w s.size 0 e
        have hd : s.data.size = s.size := rfl
        simp [size_zeroCells, Value.cells, hd]; omega
      · simp only [Array.toList_append, List.drop_zero, List.nil_append]
        rw [← bs_data]
        exact List.take_left' (by rw [bs_len]; omega)
  · by_cases hroom : n + s.size ≤ cap
    · have hfit : o + n + (bs s.data.toList).length ≤ B.length := by rw [bs_len]; omega
      obtain ⟨w', hst, hh, hf, hzz⟩ := run_storeCells_has (P := P) g (o + n) e (bs s.data.toList) 0 B w hg (by simpa using hfit) (bs_one _)
      simp only [Nat.add_zero] at hh
      refine ⟨_, w', ?_, ⟨hlen, .inr ⟨g, o, cap, _, rfl, hbg, hh, hroom, hcm, ?_, ?_⟩⟩, hf.mono (fun k _ t => by have e : k = g := t; subst e; rfl), .inl rfl⟩
      · simp [Builtin.append_, run_underlying ht, run_underlying hu, sizeOf, typeInfo, hi, Builtin.lenOf, hroom, hsize, hfc, addr_add, hst]
      · rw [splice_length _ _ _ hfit]; exact hl
      · have := splice_take B o n (bs s.data.toList) hfit
        rw [Nat.mul_one] at htake
        rw [htake] at this
        rw [← this, bs_len, Nat.mul_one]
    · have hrd : Rd w (some ⟨g, o, none⟩) (n * 1) L := by rw [← htake]; exact Rd.ofHas hg o (by omega)
      have hold : (Builtin.firstCells 1 n (.slice (some ⟨g, o, none⟩) n cap)).run P w = .ok L.toArray w := by
        have := run_firstCells_Rd (P := P) hrd 1 n n cap (Nat.le_refl _)
        rwa [List.take_of_length_le (by rw [hown.1]; exact Nat.le_refl _)] at this
      have hge := grownCap_ge w (n + s.size) cap e
      have hcm' : grownCap w (n + s.size) cap e ≤ maxLen := grownCap_le_maxLen w (n + s.size) cap e h63
      have h48 : ¬ (281474976710656 < Builtin.nextslicecap (n + s.size) cap * i.bytes) := by
        rw [hby]; have := growslice_fits (need := n + s.size) (old := cap) (bytes := 1) (by omega) (by omega); omega
      refine ⟨_, _, ?_, ⟨hlen, .inr ⟨w.heap.size, 0, grownCap w (n + s.size) cap e, _, rfl, hbase, Has.new w.drew (L.toArray ++ (bs s.data.toList).toArray ++ Builtin.zeroCells (Value.int .u8 0).cells (grownCap w (n + s.size) cap e - (n + s.size))) e, hge, hcm', ?_, ?_⟩⟩, ((Fr.refl _ w).drew).alloc _, .inr rfl⟩
      · have hold' : (Builtin.firstCells 1 n (.slice (some ⟨g, o, none⟩) n cap)).run P w.drew = .ok L.toArray w.drew := by
          have hrd' : Rd w.drew (some ⟨g, o, none⟩) (n * 1) L := hrd.keep ((Fr.refl Nob w).drew) (Off.nob _)
          have := run_firstCells_Rd (P := P) hrd' 1 n n cap (Nat.le_refl _)
          rwa [List.take_of_length_le (by rw [hown.1]; exact Nat.le_refl _)] at this
        have hfc' : (Builtin.firstCells 1 s.size (.string s)).run P w.drew = .ok (bs s.data.toList).toArray w.drew := by
          simp [Builtin.firstCells, hx, bs_arr]
        have hn : ¬ (n + s.size ≤ cap) := hroom
        have hsmall' : ¬ (9223372036854775807 < ((n : Int) + (s.size : Int))) := by omega
        simp [Builtin.append_, run_underlying ht, run_underlying hu, sizeOf, typeInfo, hi, Builtin.lenOf, hn, hsize, h48, hsmall', hold', hfc', hz, zeroValue, newRow, grownCap, Question.forced]
        congr 2
        apply Array.ext'
        simp [List.append_assoc]
      · simp [size_zeroCells, Value.cells, hown.1]
        have hd : s.data.size = s.size := rfl
        rw [length_bs, Array.length_toList, hd]; omega
      · simp only [Array.toList_append, List.drop_zero]
        rw [← hlen]
        exact List.take_left

section
variable {w : World} {ops : Array Oper} {rest : List Oper} {o : Oper} {a : Act} {Q : Exit → Act → World → Prop}

/-- append(s, x...), x a slice -/
theorem wl_append {s x : Operand} {t : TypeId} (hgd : o.guard = none) (ho : o.op = .call { callee := .builtin .append, args := #[s, x], argTypes := #[t, t] })
    {e : TypeId} {z : Value} {sz by_ : Nat} (ht : P.underlying t = some (.slice e)) (hi0 : (P.info? e).map (fun i => (i.zero, i.size, i.bytes)) = some (some z, sz, by_))
    (hzs : z.cells.size = sz) (hsz : 0 < sz)
    {v : Value} {n base : Nat} {L : List Value} (hown : Own w base e sz v n L) (hs : a.eval s = v)
    {xa : Option Addr} {m c : Nat} {news : List Value} (hx : a.eval x = .slice xa m c) (hnews : Rd w xa (m * sz) news) (h1 : ∀ u ∈ news, u.oneCell' = true)
    (h63 : n + m ≤ maxLen) (hbytes : (n + m) * by_ ≤ 140737488355328) (hbase : base ≤ w.heap.size)
    (h : ∀ v' w', Own w' base e sz v' (n + m) (L ++ news) → Fr (OwnB v) w w' → (v'.ownBlock = v.ownBlock ∨ v'.ownBlock = some w.heap.size) → wpList P ops Q rest (a.put o.dst v') w') : wpList P ops Q (o :: rest) a w := by
  refine wpList_plain hgd fun K hK => ?_
  obtain ⟨v', w', hr, h2, h3, h4⟩ := run_append2 (P := P) base t o.type e z sz by_ ht hi0 hzs hsz v n L hown xa m c news hnews h1 h63 hbytes hbase
  unfold Oper.wp execOp
  simp only [ho, resolve, invoke, builtin, Sem.run_bind, Sem.run_pure, Result.andThen_ok, List.map_toArray, List.map_cons, List.map_nil, hs, hx, hr]
  exact hK _ _ (h v' w' h2 h3 h4)

/-- append(s, x...), x a string -/
theorem wl_append_str {s x : Operand} {t u : TypeId} (hgd : o.guard = none) (ho : o.op = .call { callee := .builtin .append, args := #[s, x], argTypes := #[t, u] })
    {e : TypeId} (ht : P.underlying t = some (.slice e)) (hu : P.underlying u = some .string) (hi0 : (P.info? e).map (fun i => (i.zero, i.size, i.bytes)) = some (some (.int .u8 0), 1, 1))
    {v : Value} {n base : Nat} {L : List Value} (hown : Own w base e 1 v n L) (hs : a.eval s = v)
    {q : ByteArray} (hx : a.eval x = .string q) (h63 : n + q.size ≤ maxLen) (hbytes : n + q.size ≤ 140737488355328) (hbase : base ≤ w.heap.size)
    (h : ∀ v' w', Own w' base e 1 v' (n + q.size) (L ++ bs q.data.toList) → Fr (OwnB v) w w' → (v'.ownBlock = v.ownBlock ∨ v'.ownBlock = some w.heap.size) → wpList P ops Q rest (a.put o.dst v') w') : wpList P ops Q (o :: rest) a w := by
  refine wpList_plain hgd fun K hK => ?_
  obtain ⟨v', w', hr, h2, h3, h4⟩ := run_append_str (P := P) base t u o.type e ht hu hi0 v n L hown q h63 hbytes hbase
  unfold Oper.wp execOp
  simp only [ho, resolve, invoke, builtin, Sem.run_bind, Sem.run_pure, Result.andThen_ok, List.map_toArray, List.map_cons, List.map_nil, hs, hx, hr]
  exact hK _ _ (h v' w' h2 h3 h4)

theorem madeCells_one (z : Value) (hz : z.cells = #[z]) (n : Nat) : (madeCells z.cells n).toList = List.replicate n z := by rw [hz]; exact toList_madeCells_one z n

/-- make([]T, n), T of one cell -/
theorem wl_make {l c : Operand} {t : TypeId} (hgd : o.guard = none) (ho : o.op = .makeSlice t l c) {e : TypeId} {z : Value} {by_ : Nat} (ht : P.underlying t = some (.slice e))
    (hi0 : (P.info? e).map (fun i => (i.zero, i.size, i.bytes)) = some (some z, 1, by_)) (hzc : z.cells = #[z]) {kl kc : IntKind} {x y : Int} (hl : a.eval l = .int kl x) (hc : a.eval c = .int kc y) (n m : Nat) (hx : x = n) (hy : y = m) (hnm : n ≤ m)
    (hb : by_ * m ≤ 281474976710656) (h63 : m ≤ maxLen)
    (h : ∀ w', Has w' w.heap.size (List.replicate m z) e → Fr Nob w w' → w'.heap.size = w.heap.size + 1 → wpList P ops Q rest (a.put o.dst (.slice (some ⟨w.heap.size, 0, none⟩) n m)) w') : wpList P ops Q (o :: rest) a w := by
  refine wpList_plain hgd fun K hK => ?_
  obtain ⟨i, hi, hz, hsize, hby⟩ := info_parts hi0
  subst hx
  subst hy
  have hmx : (m : Int) ≤ 9223372036854775807 := by simp only [maxLen] at h63; omega
  have hbb : (i.bytes : Int) * (m : Int) ≤ 281474976710656 := by
    have k : ((i.bytes * m : Nat) : Int) ≤ 281474976710656 := by rw [hby]; omega
    rwa [Int.natCast_mul] at k
  have hr := run_make (P := P) w t e i z ht hi hz kl kc n m (by omega) (by omega) hbb hmx
  simp only [Int.toNat_natCast, hsize, Nat.mul_one] at hr
  unfold Oper.wp execOp
  simp only [ho, hl, hc, Sem.run_bind, Sem.run_pure, Result.andThen_ok, hr]
  refine hK _ _ (h _ ?_ ((Fr.refl _ w).alloc _) (by simp))
  have := Has.new w (madeCells z.cells m) e
  rwa [madeCells_one z hzc] at this

/-- copy(d, s), d in a block that is known, s a slice -/
theorem wl_copy {d s : Operand} {t u : TypeId} (hgd : o.guard = none) (ho : o.op = .call { callee := .builtin .copy, args := #[d, s], argTypes := #[t, u] }) {e : TypeId} (ht : P.underlying t = some (.slice e)) (hsz : (P.info? e).map (·.size) = some 1)
    {g off dn dc : Nat} (hd : a.eval d = .slice (some ⟨g, off, none⟩) dn dc) {sa : Option Addr} {m c : Nat} (hs : a.eval s = .slice sa m c) {B vs : List Value} {T : TypeId} (hg : Has w g B T) (hrd : Rd w sa m vs) (h1 : ∀ v ∈ vs, v.oneCell' = true)
    (hfit : off + min m dn ≤ B.length)
    (h : ∀ w', Has w' g (splice B off (vs.take (min m dn))) T → Fr (One g) w w' → w'.heap.size = w.heap.size → wpList P ops Q rest (a.put o.dst (.int .i64 (min m dn : Nat))) w') : wpList P ops Q (o :: rest) a w := by
  refine wpList_plain hgd fun K hK => ?_
  obtain ⟨i, hi, hi1⟩ : ∃ i, P.info? e = some i ∧ i.size = 1 := by simpa using hsz
  have hfc := run_firstCells_Rd (P := P) hrd 1 (min m dn) m c (by omega)
  rw [Nat.mul_one] at hfc
  have hlen : (vs.take (min m dn)).length = min m dn := by rw [List.length_take, hrd.len]; omega
  obtain ⟨w', hst, hh, hf, hz⟩ := run_storeCells_has (P := P) g off T (vs.take (min m dn)) 0 B w hg (by rw [hlen]; omega) (fun v hv => h1 v (List.mem_of_mem_take hv))
  simp only [Nat.add_zero] at hh
  have hr : (Builtin.copy_ #[t, u] o.type #[.slice (some ⟨g, off, none⟩) dn dc, .slice sa m c]).run P w = .ok (.int .i64 (min m dn : Nat)) w' := by
    simp [Builtin.copy_, run_underlying ht, sizeOf, typeInfo, hi, hi1, Builtin.lenOf, hfc, hst, goInt]
  unfold Oper.wp execOp
  simp only [ho, resolve, invoke, builtin, Sem.run_bind, Sem.run_pure, Result.andThen_ok, List.map_toArray, List.map_cons, List.map_nil, hd, hs, hr]
  exact hK _ _ (h w' hh hf hz)

/-- copy(d, s), d in a block that is known, s a string -/
theorem wl_copy_str {d s : Operand} {t u : TypeId} (hgd : o.guard = none) (ho : o.op = .call { callee := .builtin .copy, args := #[d, s], argTypes := #[t, u] }) {e : TypeId} (ht : P.underlying t = some (.slice e)) (hsz : (P.info? e).map (·.size) = some 1)
    {g off dn dc : Nat} (hd : a.eval d = .slice (some ⟨g, off, none⟩) dn dc) {q : ByteArray} (hs : a.eval s = .string q) {B : List Value} {T : TypeId} (hg : Has w g B T) (hq : q.size ≤ dn)
    (hfit : off + q.size ≤ B.length)
    (h : ∀ w', Has w' g (splice B off (bs q.data.toList)) T → Fr (One g) w w' → w'.heap.size = w.heap.size → wpList P ops Q rest (a.put o.dst (.int .i64 (q.size : Nat))) w') : wpList P ops Q (o :: rest) a w := by
  refine wpList_plain hgd fun K hK => ?_
  obtain ⟨i, hi, hi1⟩ : ∃ i, P.info? e = some i ∧ i.size = 1 := by simpa using hsz
  have htk : (bs q.data.toList).take q.size = bs q.data.toList := List.take_of_length_le (by rw [bs_len]; exact Nat.le_refl _)
  have hmin : Nat.min q.size dn = q.size := Nat.min_eq_left hq
  obtain ⟨w', hst, hh, hf, hz⟩ := run_storeCells_has (P := P) g off T (bs q.data.toList) 0 B w hg (by rw [bs_len]; omega) (bs_one _)
  simp only [Nat.add_zero] at hh
  have hr : (Builtin.copy_ #[t, u] o.type #[.slice (some ⟨g, off, none⟩) dn dc, .string q]).run P w = .ok (.int .i64 (q.size : Nat)) w' := by
    simp [Builtin.copy_, run_underlying ht, sizeOf, typeInfo, hi, Builtin.lenOf, Builtin.firstCells, bs_arr, htk, hst, goInt, hmin]
  unfold Oper.wp execOp
  simp only [ho, resolve, invoke, builtin, Sem.run_bind, Sem.run_pure, Result.andThen_ok, List.map_toArray, List.map_cons, List.map_nil, hd, hs, hr]
  exact hK _ _ (h w' hh hf hz)

/-- bytes as a string -/
def mkS (l : List UInt8) : ByteArray := ⟨l.toArray⟩
theorem mkS_data (s : ByteArray) : mkS s.data.toList = s := by simp [mkS]
theorem mkS_size (l : List UInt8) : (mkS l).size = l.length := by simp [mkS, ByteArray.size]
theorem mkS_toList (l : List UInt8) : (mkS l).data.toList = l := by simp [mkS]
theorem mkS_inj {l m : List UInt8} (h : mkS l = mkS m) : l = m := by have := congrArg (fun s => s.data.toList) h; simpa [mkS] using this

theorem run_string {sa : Option Addr} {m : Nat} {l : List UInt8} (hrd : RdB w sa m l) (c : Nat) {src e dst : TypeId} (hs : P.underlying src = some (.slice e)) (he : P.underlying e = some (.int .u8)) (hd : P.underlying dst = some .string) :
    (convert src dst (.slice sa m c)).run P w = .ok (.string (mkS l)) w := by
  have hl := hrd.len
  rcases Nat.eq_zero_or_pos m with h0 | h0
  · subst h0
    obtain rfl : l = [] := List.eq_nil_of_length_eq_zero hl
    cases sa with
    | none => exact run_convert_bytes_nil w src e hs he 0 c dst hd
    | some ad =>
      rw [run_convert_bytes_string w src dst e _ 0 c hs he hd]
      simp [Conv.bytesToString, mkS, loadCells, loadCellsFrom]
      rfl
  · obtain ⟨b, o, rfl, hc⟩ := hrd.at h0
    have := run_convert_bytes_arg (P := P) w src e hs he b o m c (l.map fun x => (x.toNat : Int)) (by simp [hl]) (fun i hi => by
      rw [hc i hi]; simp [List.getD_eq_getElem?_getD, List.getElem?_eq_getElem (show i < l.length by omega)]) dst hd
    rw [this]
    have hid : (l.map ((fun n : Int => UInt8.ofNat n.toNat) ∘ fun x : UInt8 => (x.toNat : Int))) = l := by
      rw [List.map_congr_left (g := id)]
      · simp
      · intro x _; simp
    simp only [strOfNums, List.map_map, hid, mkS]

/-- string(b) -/
theorem wl_string {x : Operand} {src dst : TypeId} (hgd : o.guard = none) (ho : o.op = .convert src dst x) {e : TypeId} (hs : P.underlying src = some (.slice e)) (he : P.underlying e = some (.int .u8)) (hd : P.underlying dst = some .string)
    {sa : Option Addr} {m c : Nat} {l : List UInt8} (hx : a.eval x = .slice sa m c) (hrd : RdB w sa m l) (h : wpList P ops Q rest (a.put o.dst (.string (mkS l))) w) : wpList P ops Q (o :: rest) a w := by
  refine wpList_plain hgd fun K hK => ?_
  have hr := run_string (P := P) hrd c hs he hd
  unfold Oper.wp execOp
  simp only [ho, hx, Sem.run_bind, Sem.run_pure, Result.andThen_ok, hr]
  exact hK _ _ h

/-- []byte(s) -/
theorem wl_bytes {x : Operand} {src dst : TypeId} (hgd : o.guard = none) (ho : o.op = .convert src dst x) {e : TypeId} (hs : P.underlying src = some .string) (hd : P.underlying dst = some (.slice e)) (he : P.underlying e = some (.int .u8))
    {q : ByteArray} (hx : a.eval x = .string q) (hq : q.size ≤ maxLen) (base : Nat) (hb : base ≤ w.heap.size)
    (h : ∀ cap w', Own w' base e 1 (.slice (some ⟨w.heap.size, 0, none⟩) q.size cap) q.size (bs q.data.toList) → Fr Nob w w' → w.heap.size < w'.heap.size → wpList P ops Q rest (a.put o.dst (.slice (some ⟨w.heap.size, 0, none⟩) q.size cap)) w') : wpList P ops Q (o :: rest) a w := by
  refine wpList_plain hgd fun K hK => ?_
  have hr := run_bytes_of_string (P := P) w src dst e q hs hd he
  have hge := grownCap_ge w q.size 0 e
  have hcm := grownCap_le_maxLen w q.size 0 e hq
  unfold Oper.wp execOp
  simp only [ho, hx, Sem.run_bind, Sem.run_pure, Result.andThen_ok, hr]
  refine hK _ _ (h _ _ ⟨by rw [bs_len]; omega, .inr ⟨w.heap.size, 0, _, (bytesRow q (grownCap w q.size 0 e)).toList, rfl, hb, ?_, hge, hcm, ?_, ?_⟩⟩ (((Fr.refl _ w).drew).alloc _) (by simp))
  · refine ⟨(bytesRow q (grownCap w q.size 0 e)).size, (bytesRow q (grownCap w q.size 0 e)).size + 1, ?_, .inr (Nat.le_of_eq ?_)⟩
    · have := heap_alloc_new w.drew (.cells (bytesRow q (grownCap w q.size 0 e)) e ((bytesRow q (grownCap w q.size 0 e)).size, (bytesRow q (grownCap w q.size 0 e)).size + 1))
      simpa using this
    · simp
  · have hd : q.data.size = q.size := rfl
    simp [bytesRow, hd]; omega
  · simp only [bytesRow, Array.toList_append, List.drop_zero, Nat.mul_one]
    rw [← bs_data]
    exact List.take_left' (by rw [bs_len])
end

/-- the walk stands still here -/
def Stop (p : Prop) : Prop := p
theorem wl_stop {w : World} {ops : Array Oper} {rest : List Oper} {o : Oper} {a : Act} {Q : Exit → Act → World → Prop} (h : Stop (wpList P ops Q (o :: rest) a w)) : wpList P ops Q (o :: rest) a w := h

theorem toList_data (s : ByteArray) : s.toList = s.data.toList := by
  have key : ∀ (n i : Nat) (r : List UInt8), s.size - i = n → ByteArray.toList.loop s i r = r.reverse ++ s.data.toList.drop i := by
    intro n
    induction n with
    | zero =>
      intro i r h
      rw [ByteArray.toList.loop, if_neg (by omega), List.drop_eq_nil_of_le (by simp; omega), List.append_nil]
    | succ n ih =>
      intro i r h
      have hi : i < s.size := by omega
      rw [ByteArray.toList.loop, if_pos hi, ih (i + 1) _ (by omega)]
      have hl : i < s.data.toList.length := by simpa using hi
      rw [List.drop_eq_getElem_cons hl]
      have e : s.get! i = s.data.toList[i] := by
        have hd : i < s.data.size := hi
        show s.data[i]! = _
        rw [getElem!_pos s.data i hd]; simp
      rw [e]; simp
  have := key s.size 0 [] (by omega)
  simpa [ByteArray.toList] using this
theorem mkS_list (l : List UInt8) : (mkS l).toList = l := by rw [toList_data, mkS_toList]
theorem beq_mkS (l m : List UInt8) : ((mkS l).toList == (mkS m).toList) = decide (l = m) := by
  rw [mkS_list, mkS_list]
  by_cases h : l = m
  · simp [h]
  · simp [h]
end Go.Mv

/- Plain lemmas on lists: filling a list from the left. -/
namespace Mvp

/-- the first k of F, the rest of I -/
def fill {α : Type} (F I : List α) (k : Nat) : List α := F.take k ++ I.drop k
theorem fill_length {α : Type} (F I : List α) (k : Nat) (h : F.length = I.length) : (fill F I k).length = I.length := by simp [fill]; omega
theorem fill_zero {α : Type} (F I : List α) : fill F I 0 = I := by simp [fill]
theorem fill_all {α : Type} (F I : List α) (k : Nat) (h : F.length = I.length) (hk : F.length ≤ k) : fill F I k = F := by
  unfold fill
  rw [List.take_of_length_le hk, List.drop_eq_nil_of_le (by omega), List.append_nil]
theorem fill_set {α : Type} (F I : List α) (k : Nat) (h : F.length = I.length) (hk : k < F.length) (d : α) : (fill F I k).set k (F.getD k d) = fill F I (k + 1) := by
  unfold fill
  have e : F.getD k d = F[k] := by simp [List.getD_eq_getElem?_getD, hk]
  rw [e, List.set_append_right _ _ (by simp; omega), List.length_take, Nat.min_eq_left (Nat.le_of_lt hk), Nat.sub_self, List.drop_eq_getElem_cons (by omega), List.set_cons_zero, List.take_succ_eq_append_getElem hk]
  simp only [List.append_assoc, List.singleton_append]
theorem fill_get {α : Type} (F I : List α) (k i : Nat) (h : F.length = I.length) (hk : k ≤ i) : (fill F I k)[i]? = I[i]? := by
  unfold fill
  rcases Nat.lt_or_ge i I.length with hi | hi
  · rw [List.getElem?_append_right (by simp; omega)]
    simp [Nat.min_eq_left (show k ≤ F.length by omega), List.getElem?_drop, show k + (i - k) = i by omega]
  · rw [List.getElem?_eq_none (by simp; omega), List.getElem?_eq_none hi]

/-- Go's shifts of a 64-bit word, at every count -/
def shl (x : UInt64) (k : Nat) : UInt64 := UInt64.ofNat (x.toNat * 2 ^ k)
def shr (x : UInt64) (k : Nat) : UInt64 := UInt64.ofNat (x.toNat / 2 ^ k)
/-- the operators under names of their own -/
def wx (x y : UInt64) : UInt64 := x ^^^ y
def wo (x y : UInt64) : UInt64 := x ||| y
def wa (x y : UInt64) : UInt64 := x &&& y
def wn (x : UInt64) : UInt64 := ~~~x
def wid (x : UInt8) : UInt64 := x.toUInt64
def lo8 (x : UInt64) : UInt8 := x.toUInt8
def bx (x y : UInt8) : UInt8 := x ^^^ y
def bo (x y : UInt8) : UInt8 := x ||| y
def ba (x y : UInt8) : UInt8 := x &&& y
/-- Go's rotation of a 64-bit word to the left -/
def rotl (x : UInt64) (n : Nat) : UInt64 := shl x n ||| shr x (64 - n)
end Mvp

/- mintvaultref1.Lent: the bytes of a text, at the front of a longer list. -/
namespace Go.Proofs.YtgkakddldobpkaaDoor
open Go.RowKit Go.Mv Mvp

theorem info_u8 : (Tryd.prog.info? 5).map (fun i => (i.zero, i.size, i.bytes)) = some (some (.int .u8 0), 1, 1) := by kernel_rfl
theorem size_u8 : (Tryd.prog.info? 5).map (·.size) = some 1 := by kernel_rfl

/-- what lies behind the text -/
def lentTail (n : Nat) : List UInt8 := (List.range 160).map fun j => UInt8.ofNat ((n + j) % 251) ^^^ 0xA5
def lentL (l : List UInt8) : List UInt8 := l ++ lentTail l.length
theorem lentL_len (l : List UInt8) : (lentL l).length = l.length + 160 := by simp [lentL, lentTail]
theorem lentL_at (l : List UInt8) (i : Nat) (h1 : l.length ≤ i) (h2 : i < l.length + 160) : (lentL l).getD i 0 = UInt8.ofNat (i % 251) ^^^ 0xA5 := by
  rw [List.getD_eq_getElem?_getD, lentL, List.getElem?_append_right h1]
  simp only [lentTail, List.getElem?_map, List.getElem?_range (show i - l.length < 160 by omega), Option.map_some, Option.getD_some]
  rw [show l.length + (i - l.length) = i by omega]

theorem size_list (s : ByteArray) : s.data.toList.length = s.size := by simp
theorem lent_fill_len (s : ByteArray) (k : Nat) : (fill (lentL s.data.toList) (s.data.toList ++ List.replicate 160 0) k).length = s.size + 160 := by
  rw [fill_length]
  · simp
  · simp [lentL_len]
theorem lent_start (s : ByteArray) : splice (List.replicate (s.size + 160) (Value.int .u8 0)) 0 (bs s.data.toList) = bs (fill (lentL s.data.toList) (s.data.toList ++ List.replicate 160 0) s.size) := by
  have h1 : fill (lentL s.data.toList) (s.data.toList ++ List.replicate 160 0) s.size = s.data.toList ++ List.replicate 160 0 := by
    unfold fill lentL
    rw [List.take_left' (by simp), List.drop_left' (by simp)]
  rw [h1]
  unfold splice
  rw [bs_append, bs_len]
  simp [bs]

end Go.Proofs.YtgkakddldobpkaaDoor

/- mintvaultref1.Still: is a list all as it was lent? -/
namespace Go.Proofs.YtgkakddldobpkaaDoor
open Go.RowKit Go.Mv Mvp

theorem ret_bool {a b : Bool} (h : a = b) : Ending.returned (.bool a) = .returned (.bool b) := by rw [h]

end Go.Proofs.YtgkakddldobpkaaDoor

/- Rules of the walk for words: what Go's operators on 64-bit words and on bytes are on UInt64 and UInt8. -/
namespace Go.Mv
open Go.RowKit Mvp

theorem u64_lt (x : UInt64) : x.toNat < 18446744073709551616 := x.toNat_lt
theorem shr_toNat (x : UInt64) (k : Nat) : (shr x k).toNat = x.toNat / 2 ^ k := by
  have := u64_lt x
  have h := Nat.div_le_self x.toNat (2 ^ k)
  simp only [shr, UInt64.toNat_ofNat']
  exact Nat.mod_eq_of_lt (Nat.lt_of_le_of_lt h this)
theorem shl_toNat (x : UInt64) (k : Nat) : (shl x k).toNat = x.toNat * 2 ^ k % 18446744073709551616 := by simp [shl]

theorem shl_run (x : UInt64) (yk : IntKind) (k : Nat) : Op.shift .shl .u64 (x.toNat : Int) yk (k : Int) = pure (.int .u64 ((shl x k).toNat : Int)) := by
  rw [shift_shl_any _ _ _ _ (by omega), shl_toNat]
  congr 2
  rw [IntKind.wrap_u64]
  simp only [Int.toNat_natCast, IntKind.bits]
  rcases Nat.lt_or_ge k 64 with h | h
  · rw [Nat.min_eq_left (by omega)]
    simp
  · rw [Nat.min_eq_right (by omega)]
    obtain ⟨j, rfl⟩ : ∃ j, k = 64 + j := ⟨k - 64, by omega⟩
    have e : x.toNat * 2 ^ (64 + j) = x.toNat * 2 ^ j * 18446744073709551616 := by
      have e64 : (2 : Nat) ^ 64 = 18446744073709551616 := by decide
      rw [Nat.pow_add, e64]; ac_rfl
    rw [e, Nat.mul_mod_left]
    have e2 : (2 : Int) ^ 64 = 18446744073709551616 := by decide
    rw [e2]
    omega
theorem shr_run (x : UInt64) (yk : IntKind) (k : Nat) : Op.shift .shr .u64 (x.toNat : Int) yk (k : Int) = pure (.int .u64 ((shr x k).toNat : Int)) := by
  rw [shift_shr_any _ _ _ _ (by omega), shr_toNat]
  congr 2
  simp only [Int.toNat_natCast, IntKind.bits]
  rcases Nat.lt_or_ge k 64 with h | h
  · rw [Nat.min_eq_left (by omega)]
    simp
  · rw [Nat.min_eq_right (by omega)]
    have hx := u64_lt x
    have e2 : (2 : Int) ^ 64 = 18446744073709551616 := by decide
    have h3 : x.toNat / 2 ^ k = 0 := Nat.div_eq_of_lt (Nat.lt_of_lt_of_le hx (by have := Nat.pow_le_pow_right (show 0 < 2 by omega) h; simpa using this))
    rw [e2, h3]
    omega
theorem shl_lit (x : UInt64) (yk : IntKind) (n : Nat) : Op.shift .shl .u64 (x.toNat : Int) yk (no_index (OfNat.ofNat n)) = pure (.int .u64 ((shl x n).toNat : Int)) := shl_run x yk n
theorem shr_lit (x : UInt64) (yk : IntKind) (n : Nat) : Op.shift .shr .u64 (x.toNat : Int) yk (no_index (OfNat.ofNat n)) = pure (.int .u64 ((shr x n).toNat : Int)) := shr_run x yk n
theorem xor_run (x y : UInt64) : bits .xor .u64 (x.toNat : Int) (y.toNat : Int) = ((wx x y).toNat : Int) := by
  have := bits_xor_u64_nat x.toNat y.toNat (u64_lt x) (u64_lt y)
  rw [this]; simp [wx]
theorem or_run (x y : UInt64) : bits .or .u64 (x.toNat : Int) (y.toNat : Int) = ((wo x y).toNat : Int) := by
  have := bits_or_u64_nat x.toNat y.toNat (u64_lt x) (u64_lt y)
  rw [this]; simp [wo]
theorem and_run (x y : UInt64) : bits .and .u64 (x.toNat : Int) (y.toNat : Int) = ((wa x y).toNat : Int) := by
  have := bits_and_u64_nat x.toNat y.toNat (u64_lt x) (u64_lt y)
  rw [this]; simp [wa]
theorem not_run (x : UInt64) : bits .xor .u64 18446744073709551615 (x.toNat : Int) = ((wn x).toNat : Int) := by
  have e : (18446744073709551615 : Int) = (((18446744073709551615 : UInt64).toNat : Nat) : Int) := by decide
  have e1 : (18446744073709551615 : UInt64) = -1 := by decide
  rw [e, xor_run, e1, wx, UInt64.neg_one_xor, wn]
theorem not_run2 (x : UInt64) : bits .xor .u64 (if IntKind.u64.signed = true then -1 else IntKind.u64.max) (x.toNat : Int) = ((wn x).toNat : Int) := not_run x
theorem and63_run (k : Nat) : bits .and .u64 (k : Int) 63 = ((k % 64 : Nat) : Int) := by
  have h1 : BitVec.ofInt 64 (k : Int) = BitVec.ofNat 64 k := by simp
  have h2 : (BitVec.ofNat 64 k &&& BitVec.ofInt 64 63).toNat = k % 64 := by
    have e : (BitVec.ofInt 64 63).toNat = 2 ^ 6 - 1 := by decide
    rw [BitVec.toNat_and, e, Nat.and_two_pow_sub_one_eq_mod, BitVec.toNat_ofNat]
    omega
  show IntKind.u64.wrap (((BitVec.ofInt 64 (k : Int) &&& BitVec.ofInt 64 63).toNat : Nat) : Int) = _
  rw [h1, h2, IntKind.wrap_u64]
  omega
theorem widen_run (x : UInt8) : IntKind.u64.wrap (x.toNat : Int) = ((wid x).toNat : Int) := by
  have := x.toNat_lt
  rw [IntKind.wrap_u64]; simp [wid]; omega
theorem narrow_run (x : UInt64) : IntKind.u8.wrap (x.toNat : Int) = ((lo8 x).toNat : Int) := by
  rw [IntKind.wrap_u8']; simp [lo8]
theorem xor8_run (x y : UInt8) : bits .xor .u8 (x.toNat : Int) (y.toNat : Int) = ((bx x y).toNat : Int) := by
  rw [u8_xor_nat _ _ x.toNat_lt y.toNat_lt]; simp [bx]
theorem and8_run (x y : UInt8) : bits .and .u8 (x.toNat : Int) (y.toNat : Int) = ((ba x y).toNat : Int) := by
  rw [u8_and_nat _ _ x.toNat_lt y.toNat_lt]; simp [ba]
theorem or8_run (x y : UInt8) : bits .or .u8 (x.toNat : Int) (y.toNat : Int) = ((bo x y).toNat : Int) := by
  rw [u8_or_nat _ _ x.toNat_lt y.toNat_lt]; simp [bo]
theorem narrow_nat (k : Nat) : IntKind.u8.wrap (k : Int) = ((UInt8.ofNat k).toNat : Int) := by
  rw [IntKind.wrap_u8']; simp
theorem ofInt_nat (k : Nat) : BitVec.ofInt 64 (k : Int) = BitVec.ofNat 64 k := by simp
theorem wrap_i64_small (n : Nat) (h : n < 9223372036854775808) : IntKind.i64.wrap (n : Int) = (n : Int) := by rw [IntKind.wrap_i64]; omega
theorem xor_lt63 (a b : Nat) (ha : a < 9223372036854775808) (hb : b < 9223372036854775808) : a ^^^ b < 9223372036854775808 := Nat.xor_lt_two_pow (n := 63) ha hb
theorem xor_i64 (a b : Nat) (ha : a < 9223372036854775808) (hb : b < 9223372036854775808) : bits .xor .i64 (a : Int) (b : Int) = ((a ^^^ b : Nat) : Int) := by
  show IntKind.i64.wrap (((BitVec.ofInt 64 (a : Int) ^^^ BitVec.ofInt 64 (b : Int)).toNat : Nat) : Int) = _
  rw [ofInt_nat, ofInt_nat, BitVec.toNat_xor, BitVec.toNat_ofNat, BitVec.toNat_ofNat, Nat.mod_eq_of_lt (by omega), Nat.mod_eq_of_lt (by omega)]
  exact wrap_i64_small _ (xor_lt63 a b ha hb)
theorem and_i64 (a b : Nat) (ha : a < 9223372036854775808) (hb : b < 9223372036854775808) : bits .and .i64 (a : Int) (b : Int) = ((a &&& b : Nat) : Int) := by
  show IntKind.i64.wrap (((BitVec.ofInt 64 (a : Int) &&& BitVec.ofInt 64 (b : Int)).toNat : Nat) : Int) = _
  rw [ofInt_nat, ofInt_nat, BitVec.toNat_and, BitVec.toNat_ofNat, BitVec.toNat_ofNat, Nat.mod_eq_of_lt (by omega), Nat.mod_eq_of_lt (by omega)]
  exact wrap_i64_small _ (Nat.lt_of_le_of_lt Nat.and_le_left ha)
theorem or_i64 (a b : Nat) (ha : a < 9223372036854775808) (hb : b < 9223372036854775808) : bits .or .i64 (a : Int) (b : Int) = ((a ||| b : Nat) : Int) := by
  show IntKind.i64.wrap (((BitVec.ofInt 64 (a : Int) ||| BitVec.ofInt 64 (b : Int)).toNat : Nat) : Int) = _
  rw [ofInt_nat, ofInt_nat, BitVec.toNat_or, BitVec.toNat_ofNat, BitVec.toNat_ofNat, Nat.mod_eq_of_lt (by omega), Nat.mod_eq_of_lt (by omega)]
  exact wrap_i64_small _ (Nat.or_lt_two_pow (n := 63) ha hb)
theorem wid_toNat (y : UInt8) : (wid y).toNat = y.toNat := by simp [wid]
theorem or_mix (x : UInt64) (y : UInt8) : bits .or .u64 (x.toNat : Int) (y.toNat : Int) = ((wo x (wid y)).toNat : Int) := by rw [← or_run, wid_toNat]
theorem xor_mix (x : UInt64) (y : UInt8) : bits .xor .u64 (x.toNat : Int) (y.toNat : Int) = ((wx x (wid y)).toNat : Int) := by rw [← xor_run, wid_toNat]
theorem shl_mix (x : UInt8) (yk : IntKind) (k : Nat) : Op.shift .shl .u64 (x.toNat : Int) yk (k : Int) = pure (.int .u64 ((shl (wid x) k).toNat : Int)) := by rw [← shl_run, wid_toNat]
theorem shl_wrap (x : UInt64) (k : Nat) : IntKind.u64.wrap ((x.toNat : Int) * 2 ^ k) = ((shl x k).toNat : Int) := by
  rw [IntKind.wrap_u64, shl_toNat]; simp
theorem shr_div (x : UInt64) (k : Nat) : (x.toNat : Int) / 2 ^ k = ((shr x k).toNat : Int) := by
  rw [shr_toNat]; simp
attribute [go_sem high] shl_wrap shr_div or_mix xor_mix shl_mix shl_lit shr_lit shl_run shr_run xor_run or_run and_run not_run not_run2 and63_run widen_run narrow_run xor8_run and8_run or8_run

section
variable {P : Program} {w : World} {ops : Array Oper} {rest : List Oper} {o : Oper} {a : Act} {Q : Exit → Act → World → Prop}
/-- s[i] of a text: the byte F i, where F is told -/
theorem wl_index_str {x i : Operand} {t : TypeId} (hgd : o.guard = none) (ho : o.op = .index t x i) (ht : P.underlying t = some .string) {s : ByteArray} {ki : IntKind} {j : Int} (hx : a.eval x = .string s) (hi : a.eval i = .int ki j)
    (k : Nat) (hj : j = k) (hk : k < s.size) (y : UInt8) (hy : s.data.toList.getD k 0 = y) (h : wpList P ops Q rest (a.put o.dst (.int .u8 (y.toNat : Int))) w) : wpList P ops Q (o :: rest) a w := by
  refine wpList_plain hgd fun K hK => ?_
  subst hj
  have he : s[k]? = some y := by
    have h1 : s[k]? = some s[k] := getElem?_pos s k hk
    rw [h1]
    congr 1
    rw [← hy, List.getD_eq_getElem?_getD, List.getElem?_eq_getElem (by simpa using hk)]
    simp
    rfl
  have hr : (Instr.index t (.string s) (.int ki (k : Int))).run P w = .ok (.int .u8 (y.toNat : Int)) w := by
    simp [Instr.index, asIntOf, run_underlying ht, he]
  unfold Oper.wp execOp
  simp only [ho, hx, hi, Sem.run_bind, Sem.run_pure, Result.andThen_ok, hr]
  exact hK _ _ h
end

/-- a call that leaves the world alone, behind draws -/
theorem quiet_more {P : Program} {f : FuncId} {args : Array Value} {w : World} {a n : Nat} {v : Value}
    (h : Calls P f args (w.drewN (a + n)) fun e w' => e = .returned v ∧ w' = w.drewN (a + n)) :
    Calls P f args (w.drewN (a + n)) fun e w'' => e = .returned v ∧ ∃ m, w'' = w.drewN (a + m) :=
  h.mono fun _ _ h => ⟨h.1, n, h.2⟩
end Go.Mv

/- Pure sponge: what the program's and the reference's permutation compute, and that the two are one. -/
namespace Mvp


def goesTo (i : Nat) : Nat := i / 5 + 5 * ((2 * (i % 5) + 3 * (i / 5)) % 5)

/- the program -/
def colStep (s c : List UInt64) (i : Nat) : List UInt64 := c.set (i % 5) (c.getD (i % 5) 0 ^^^ s.getD i 0)
def colP (s : List UInt64) (k : Nat) : List UInt64 := (List.range k).foldl (colStep s) [0, 0, 0, 0, 0]
def movStep (s col : List UInt64) (by_ : List Nat) (m : List UInt64) (i : Nat) : List UInt64 :=
  m.set (goesTo i) (rotl (s.getD i 0 ^^^ (col.getD ((i + 4) % 5) 0 ^^^ rotl (col.getD ((i + 1) % 5) 0) 1)) (by_.getD i 0))
def movP (s col : List UInt64) (by_ : List Nat) (k : Nat) : List UInt64 := (List.range k).foldl (movStep s col by_) (List.replicate 25 0)
def chiStep (m : List UInt64) (y : Nat) (s : List UInt64) (x : Nat) : List UInt64 :=
  s.set (y + x) (m.getD (y + x) 0 ^^^ (~~~ (m.getD (y + (x + 1) % 5) 0) &&& m.getD (y + (x + 2) % 5) 0))
def chiRow (m s : List UInt64) (y k : Nat) : List UInt64 := (List.range k).foldl (chiStep m y) s
def chiP (m s : List UInt64) (k : Nat) : List UInt64 := (List.range k).foldl (fun s y => chiRow m s (5 * y) 5) s
def roundP (by_ : List Nat) (s : List UInt64) (c : UInt64) : List UInt64 :=
  let t := chiP (movP s (colP s 25) by_ 25) s 5
  t.set 0 (t.getD 0 0 ^^^ c)
def permP (by_ : List Nat) (rc : Nat → UInt64) (s : List UInt64) (k : Nat) : List UInt64 := (List.range k).foldl (fun s r => roundP by_ s (rc r)) s

/- the reference -/
def place (x y : Nat) : Nat := x % 5 + 5 * (y % 5)
def colRstep (s : List UInt64) (x : Nat) (c : List UInt64) (y : Nat) : List UInt64 := c.set x (c.getD x 0 ^^^ s.getD (place x y) 0)
def colRrow (s c : List UInt64) (x k : Nat) : List UInt64 := (List.range k).foldl (colRstep s x) c
def colR (s : List UInt64) (k : Nat) : List UInt64 := (List.range k).foldl (fun c x => colRrow s c x 5) [0, 0, 0, 0, 0]
def movRstep (s : List UInt64) (turn : List Nat) (x : Nat) (d : UInt64) (m : List UInt64) (y : Nat) : List UInt64 :=
  m.set (place y (2 * x + 3 * y)) (rotl (s.getD (place x y) 0 ^^^ d) (turn.getD (place x y) 0))
def movRrow (s : List UInt64) (turn : List Nat) (m : List UInt64) (x : Nat) (d : UInt64) (k : Nat) : List UInt64 := (List.range k).foldl (movRstep s turn x d) m
def dR (col : List UInt64) (x : Nat) : UInt64 := col.getD ((x + 4) % 5) 0 ^^^ rotl (col.getD ((x + 1) % 5) 0) 1
def movR (s : List UInt64) (turn : List Nat) (col : List UInt64) (k : Nat) : List UInt64 := (List.range k).foldl (fun m x => movRrow s turn m x (dR col x) 5) (List.replicate 25 0)
def chiRstep (m : List UInt64) (x : Nat) (o : List UInt64) (y : Nat) : List UInt64 :=
  o.set (place x y) (m.getD (place x y) 0 ^^^ (~~~ (m.getD (place (x + 1) y) 0) &&& m.getD (place (x + 2) y) 0))
def chiRrow (m o : List UInt64) (x k : Nat) : List UInt64 := (List.range k).foldl (chiRstep m x) o
def chiR (m : List UInt64) (k : Nat) : List UInt64 := (List.range k).foldl (fun o x => chiRrow m o x 5) (List.replicate 25 0)
def roundR (turn : List Nat) (s : List UInt64) (c : UInt64) : List UInt64 :=
  let t := chiR (movR s turn (colR s 5) 5) 5
  t.set 0 (t.getD 0 0 ^^^ c)
def permR (turn : List Nat) (rc : Nat → UInt64) (s : List UInt64) (k : Nat) : List UInt64 := (List.range k).foldl (fun s r => roundR turn s (rc r)) s

theorem len25 (s : List UInt64) (h : s.length = 25) : ∃ a0 a1 a2 a3 a4 a5 a6 a7 a8 a9 a10 a11 a12 a13 a14 a15 a16 a17 a18 a19 a20 a21 a22 a23 a24, s = [a0, a1, a2, a3, a4, a5, a6, a7, a8, a9, a10, a11, a12, a13, a14, a15, a16, a17, a18, a19, a20, a21, a22, a23, a24] := by
  match s, h with
  | [a0, a1, a2, a3, a4, a5, a6, a7, a8, a9, a10, a11, a12, a13, a14, a15, a16, a17, a18, a19, a20, a21, a22, a23, a24], _ => exact ⟨_, _, _, _, _, _, _, _, _, _, _, _, _, _, _, _, _, _, _, _, _, _, _, _, _, rfl⟩

theorem col_same (s : List UInt64) (h : s.length = 25) : colP s 25 = colR s 5 := by
  obtain ⟨a0, a1, a2, a3, a4, a5, a6, a7, a8, a9, a10, a11, a12, a13, a14, a15, a16, a17, a18, a19, a20, a21, a22, a23, a24, rfl⟩ := len25 s h
  kernel_rfl

theorem mov_same (s col : List UInt64) (t : List Nat) : movP s col t 25 = movR s t col 5 := by
  kernel_rfl

theorem chi_same (m s : List UInt64) (h : s.length = 25) : chiP m s 5 = chiR m 5 := by
  obtain ⟨a0, a1, a2, a3, a4, a5, a6, a7, a8, a9, a10, a11, a12, a13, a14, a15, a16, a17, a18, a19, a20, a21, a22, a23, a24, rfl⟩ := len25 s h
  kernel_rfl

theorem round_same (t : List Nat) (s : List UInt64) (c : UInt64) (h : s.length = 25) : roundP t s c = roundR t s c := by
  unfold roundP roundR
  rw [col_same s h, mov_same, chi_same _ s h]

theorem foldl_inv {α β : Type} (P : α → Prop) (f : α → β → α) (hf : ∀ a b, P a → P (f a b)) (l : List β) : ∀ a, P a → P (l.foldl f a) := by
  induction l with
  | nil => intro a h; exact h
  | cons b l ih => intro a h; exact ih _ (hf _ _ h)

theorem chiP_len (m s : List UInt64) (k : Nat) : (chiP m s k).length = s.length := by
  refine foldl_inv (fun l : List UInt64 => l.length = s.length) _ (fun a y h => ?_) _ _ rfl
  refine foldl_inv (fun l : List UInt64 => l.length = s.length) _ (fun b x h => ?_) _ _ h
  simp [chiStep, h]

theorem roundP_len (t : List Nat) (s : List UInt64) (c : UInt64) : (roundP t s c).length = s.length := by simp [roundP, chiP_len]

theorem permP_succ (t : List Nat) (rc : Nat → UInt64) (s : List UInt64) (k : Nat) : permP t rc s (k + 1) = roundP t (permP t rc s k) (rc k) := by
  simp [permP, List.range_succ]
theorem permR_succ (t : List Nat) (rc : Nat → UInt64) (s : List UInt64) (k : Nat) : permR t rc s (k + 1) = roundR t (permR t rc s k) (rc k) := by
  simp [permR, List.range_succ]
theorem permP_len (t : List Nat) (rc : Nat → UInt64) (s : List UInt64) (k : Nat) : (permP t rc s k).length = s.length := by
  induction k with
  | zero => simp [permP]
  | succ k ih => rw [permP_succ, roundP_len, ih]
theorem perm_same (t : List Nat) (rc rc' : Nat → UInt64) (s : List UInt64) (h : s.length = 25) (n : Nat) (hrc : ∀ r, r < n → rc r = rc' r) : permP t rc s n = permR t rc' s n := by
  induction n with
  | zero => simp [permP, permR]
  | succ k ih =>
    rw [permP_succ, permR_succ, ← ih (fun r hr => hrc r (by omega)), hrc k (by omega)]
    exact round_same _ _ _ (by rw [permP_len, h])

/- the constants of the rounds -/
def lfsr : Nat → Nat
  | 0 => 1
  | n + 1 => if 2 * lfsr n > 255 then (2 * lfsr n) ^^^ 369 else 2 * lfsr n
theorem lfsr_lt (n : Nat) : lfsr n < 256 := by
  have h : ∀ r, r < 256 → (if 2 * r > 255 then (2 * r) ^^^ 369 else 2 * r) < 256 := by decide +kernel
  induction n with
  | zero => decide
  | succ n ih => exact h _ ih
def bitR (t : Nat) : Nat := lfsr t % 2
def bitW (t : Nat) : UInt64 := UInt64.ofNat (bitR t)
def rcStep (r : Nat) (out : UInt64) (j : Nat) : UInt64 := out ||| shl (bitW (j + 7 * r)) (2 ^ j - 1)
def rcR (r k : Nat) : UInt64 := (List.range k).foldl (rcStep r) 0

def rcBytes : List Nat := [
  0, 0, 0, 0, 0, 0, 0, 1, 0, 0, 0, 0, 0, 0, 0x80, 0x82, 0x80, 0, 0, 0, 0, 0, 0x80, 0x8a, 0x80, 0, 0, 0, 0x80, 0, 0x80, 0,
  0, 0, 0, 0, 0, 0, 0x80, 0x8b, 0, 0, 0, 0, 0x80, 0, 0, 1, 0x80, 0, 0, 0, 0x80, 0, 0x80, 0x81, 0x80, 0, 0, 0, 0, 0, 0x80, 9,
  0, 0, 0, 0, 0, 0, 0, 0x8a, 0, 0, 0, 0, 0, 0, 0, 0x88, 0, 0, 0, 0, 0x80, 0, 0x80, 9, 0, 0, 0, 0, 0x80, 0, 0, 0xa,
  0, 0, 0, 0, 0x80, 0, 0x80, 0x8b, 0x80, 0, 0, 0, 0, 0, 0, 0x8b, 0x80, 0, 0, 0, 0, 0, 0x80, 0x89, 0x80, 0, 0, 0, 0, 0, 0x80, 3,
  0x80, 0, 0, 0, 0, 0, 0x80, 2, 0x80, 0, 0, 0, 0, 0, 0, 0x80, 0, 0, 0, 0, 0, 0, 0x80, 0xa, 0x80, 0, 0, 0, 0x80, 0, 0, 0xa,
  0x80, 0, 0, 0, 0x80, 0, 0x80, 0x81, 0x80, 0, 0, 0, 0, 0, 0x80, 0x80, 0, 0, 0, 0, 0x80, 0, 0, 1, 0x80, 0, 0, 0, 0x80, 0, 0x80, 8]
def rcPstep (r : Nat) (c : UInt64) (n : Nat) : UInt64 := shl c 8 ||| (UInt8.ofNat (rcBytes.getD (8 * r + n) 0)).toUInt64
def rcP (r k : Nat) : UInt64 := (List.range k).foldl (rcPstep r) 0

theorem rc_same : ∀ r, r < 24 → rcP r 8 = rcR r 7 := by decide +kernel

/- how far the lanes are turned -/
def xy : Nat → Nat × Nat
  | 0 => (1, 0)
  | t + 1 => ((xy t).2, (2 * (xy t).1 + 3 * (xy t).2) % 5)
def turnStep (l : List Nat) (t : Nat) : List Nat := l.set ((xy t).1 + 5 * (xy t).2) ((t + 1) * (t + 2) / 2 % 64)
def turnsK (k : Nat) : List Nat := (List.range k).foldl turnStep (List.replicate 25 0)
theorem xy_lt (t : Nat) : (xy t).1 < 5 ∧ (xy t).2 < 5 := by
  induction t with
  | zero => decide
  | succ t ih => exact ⟨ih.2, Nat.mod_lt _ (by decide)⟩

/- bytes into words, and back -/
def xorStep (s : List UInt64) (i : Nat) (x : UInt8) : List UInt64 := s.set (i / 8) (wx (s.getD (i / 8) 0) (shl (wid x) (8 * (i % 8))))
/-- the first k bytes of b are added to s -/
def xorB (s : List UInt64) (b : List UInt8) (k : Nat) : List UInt64 := (List.range k).foldl (fun s i => xorStep s i (b.getD i 0)) s
def sByte (s : List UInt64) (i : Nat) : UInt8 := lo8 (shr (s.getD (i / 8) 0) (8 * (i % 8)))
def toB (s : List UInt64) (n : Nat) : List UInt8 := (List.range n).map (sByte s)
theorem xorB_succ (s : List UInt64) (b : List UInt8) (k : Nat) : xorB s b (k + 1) = xorStep (xorB s b k) k (b.getD k 0) := by simp [xorB, List.range_succ]
theorem xorB_len (s : List UInt64) (b : List UInt8) (k : Nat) : (xorB s b k).length = s.length := by
  induction k with
  | zero => simp [xorB]
  | succ k ih => rw [xorB_succ]; simp [xorStep, ih]
theorem toB_len (s : List UInt64) (n : Nat) : (toB s n).length = n := by simp [toB]
end Mvp

/- word functions of the sponge -/
namespace Go.Proofs.YtgkakddldobpkaaDoor
open Go.RowKit Go.Mv Mvp

theorem ret_int {k : IntKind} {a b : Int} (h : a = b) : Ending.returned (.int k a) = .returned (.int k b) := by rw [h]

theorem rot_form (x : UInt64) (k : Nat) (hk : k < 64) : wo (shl x (k % 64)) (shr x (64 - k % 64)) = rotl x k := by
  rw [Nat.mod_eq_of_lt hk]; rfl
theorem rot_any (x : UInt64) (k : Nat) (hk : k < 64) (w : World) :
    Calls Tryd.prog 55 #[.int .u64 (x.toNat : Int), .int .i64 (k : Int)] w fun e w' => e = .returned (.int .u64 ((rotl x k).toNat : Int)) ∧ w = w' := by
  go_enter Tryd.func55, Tryd.ntmps55
  go_wp2
  go_ret
  exact ⟨ret_int (by rw [← rot_form x k hk]), rfl⟩
theorem left_any (x : UInt64) (k : Nat) (hk : k < 64) (w : World) :
    Calls Tryd.prog 59 #[.int .u64 (x.toNat : Int), .int .i64 (k : Int)] w fun e w' => e = .returned (.int .u64 ((rotl x k).toNat : Int)) ∧ ∃ n, w' = w.drewN n := by
  go_enter Tryd.func59, Tryd.ntmps59
  go_wp2
  go_quiet (fail)
  go_wp2
  go_ret
  exact ⟨rfl, nq, rfl⟩
theorem place_any (x y : Int) (w : World) (hx : 0 ≤ x) (hx' : x ≤ 1000) (hy : 0 ≤ y) (hy' : y ≤ 1000) :
    Calls Tryd.prog 58 #[.int .i64 x, .int .i64 y] w fun e w' => e = .returned (.int .i64 ((place x.toNat y.toNat : Nat) : Int)) ∧ w = w' := by
  go_enter Tryd.func58, Tryd.ntmps58
  go_wp2
  go_ret
  exact ⟨ret_int (by unfold place; omega), rfl⟩
theorem goesTo_any (i : Nat) (w : World) (hi : i ≤ 1000) :
    Calls Tryd.prog 56 #[.int .i64 (i : Int)] w fun e w' => e = .returned (.int .i64 ((goesTo i : Nat) : Int)) ∧ w = w' := by
  go_enter Tryd.func56, Tryd.ntmps56
  go_wp2
  go_ret
  exact ⟨ret_int (by unfold goesTo; omega), rfl⟩
set_option maxHeartbeats 400000 in
theorem bit_any (t : Int) (w : World) (hx : 0 ≤ t) (hx' : t ≤ 1000) :
    Calls Tryd.prog 60 #[.int .i64 t] w fun e w' => e = .returned (.int .u64 ((bitW t.toNat).toNat : Int)) ∧ w = w' := by
  go_enter Tryd.func60, Tryd.ntmps60
  go_wp2
  go_loop [3, 4] (fun r i => ∃ k : Nat, (k : Int) ≤ t ∧ i = .int .i64 k ∧ r = .int .i64 (lfsr k : Nat)) (fun _ i => (t - intOf i).toNat)
  case atStart => exact ⟨0, by omega, rfl, rfl⟩
  case round =>
    obtain ⟨k, hk, rfl, rfl⟩ := hrel
    have hb := lfsr_lt k
    by_cases hlt : (k : Int) < t
    · by_cases hc : 255 < 2 * lfsr k
      · go_wp2
        go_round
        case rel =>
          refine ⟨k + 1, by omega, by go_num, ?_⟩
          have e := xor_i64 (2 * lfsr k) 369 (by omega) (by omega)
          have e2 : lfsr (k + 1) = (2 * lfsr k) ^^^ 369 := by rw [lfsr, if_pos hc]
          rw [e2, ← e]; rfl
        case measure => simp [intOf]; omega
      · go_wp2
        go_round
        case rel =>
          refine ⟨k + 1, by omega, by go_num, ?_⟩
          have e2 : lfsr (k + 1) = 2 * lfsr k := by rw [lfsr, if_neg hc]
          rw [e2]; simp
        case measure => simp [intOf]; omega
    · go_wp2
      go_ret
      have hkt : t.toNat = k := by omega
      refine ⟨ret_int ?_, rfl⟩
      have e := and_i64 (lfsr k) 1 (by omega) (by omega)
      rw [show (1 : Int) = ((1 : Nat) : Int) from rfl, e, IntKind.wrap_u64, hkt, bitW, bitR, nat_mask1]
      simp
end Go.Proofs.YtgkakddldobpkaaDoor

/- the constants of the rounds, and how far the lanes are turned -/
namespace Go.Proofs.YtgkakddldobpkaaDoor
open Go.RowKit Go.Mv Mvp

theorem rcP_succ (r k : Nat) : rcP r (k + 1) = rcPstep r (rcP r k) k := by simp [rcP, List.range_succ]
theorem rcR_succ (r k : Nat) : rcR r (k + 1) = rcStep r (rcR r k) k := by simp [rcR, List.range_succ]

set_option maxHeartbeats 400000 in
theorem constP_any (r : Nat) (hr : r < 24) (w : World) :
    Calls Tryd.prog 57 #[.int .i64 (r : Int)] w fun e w' => e = .returned (.int .u64 ((rcP r 8).toNat : Int)) ∧ w = w' := by
  go_enter Tryd.func57, Tryd.ntmps57
  go_wp2
  go_loop [2, 4] (fun c i => ∃ k : Nat, k ≤ 8 ∧ i = .int .i64 k ∧ c = .int .u64 ((rcP r k).toNat : Int)) (fun _ i => (8 - intOf i).toNat)
  case atStart => exact ⟨0, by omega, rfl, rfl⟩
  case round =>
    obtain ⟨k, hk, rfl, rfl⟩ := hrel
    by_cases hlt : k < 8
    · go_wp2_with (first | (with_reducible refine wl_stop (o := ⟨some 13, _, _, _, _, _⟩) ?_))
      refine wl_index_str rfl rfl Tryd.underlying9 rfl rfl (8 * r + k) (by simp) ?_ (UInt8.ofNat (rcBytes.getD (8 * r + k) 0)) ?_ ?_
      · exact Nat.lt_of_lt_of_le (show 8 * r + k < 192 by omega) (by decide +kernel)
      · generalize hj : 8 * r + k = j
        have hj' : j < 192 := by omega
        clear hj
        revert j
        decide +kernel
      generalize hy : UInt8.ofNat (rcBytes.getD (8 * r + k) 0) = y
      have HY := Lib.hid hy; clear hy
      go_wp2
      go_round
      case rel => exact ⟨k + 1, by omega, by go_num, by rw [rcP_succ, rcPstep, HY.out]; rfl⟩
      case measure => simp [intOf]; omega
    · go_wp2
      go_ret
      have : k = 8 := by omega
      subst this
      exact ⟨rfl, rfl⟩

set_option maxHeartbeats 400000 in
theorem constR_any (r : Nat) (hr : r < 24) (w : World) :
    Calls Tryd.prog 53 #[.int .i64 (r : Int)] w fun e w' => e = .returned (.int .u64 ((rcR r 7).toNat : Int)) ∧ w = w' := by
  go_enter Tryd.func53, Tryd.ntmps53
  go_wp2
  go_loop [3, 4] (fun c i => ∃ k : Nat, k ≤ 7 ∧ i = .int .i64 k ∧ c = .int .u64 ((rcR r k).toNat : Int)) (fun _ i => (7 - intOf i).toNat)
  case atStart => exact ⟨0, by omega, rfl, rfl⟩
  case round =>
    obtain ⟨k, hk, rfl, rfl⟩ := hrel
    by_cases hlt : k < 7
    · obtain rfl | rfl | rfl | rfl | rfl | rfl | rfl : k = 0 ∨ k = 1 ∨ k = 2 ∨ k = 3 ∨ k = 4 ∨ k = 5 ∨ k = 6 := by omega
      all_goals
        go_wp2_with fail
        refine (bit_any _ _ (by omega) (by omega)).mono ?_
        rintro e w' ⟨rfl, rfl⟩
        go_wp2
        go_round
      case rel => exact ⟨1, by omega, by go_num, by rw [rcR_succ, rcStep, Nat.zero_add]; rfl⟩
      case measure => simp [intOf]
      case rel => exact ⟨2, by omega, by go_num, by rw [rcR_succ, rcStep]; rfl⟩
      case measure => simp [intOf]
      case rel => exact ⟨3, by omega, by go_num, by rw [rcR_succ, rcStep]; rfl⟩
      case measure => simp [intOf]
      case rel => exact ⟨4, by omega, by go_num, by rw [rcR_succ, rcStep]; rfl⟩
      case measure => simp [intOf]
      case rel => exact ⟨5, by omega, by go_num, by rw [rcR_succ, rcStep]; rfl⟩
      case measure => simp [intOf]
      case rel => exact ⟨6, by omega, by go_num, by rw [rcR_succ, rcStep]; rfl⟩
      case measure => simp [intOf]
      case rel => exact ⟨7, by omega, by go_num, by rw [rcR_succ, rcStep]; rfl⟩
      case measure => simp [intOf]
    · go_wp2
      go_ret
      have : k = 7 := by omega
      subst this
      exact ⟨rfl, rfl⟩
end Go.Proofs.YtgkakddldobpkaaDoor

/- Whole arrays in memory: load, store, result, over the words of Mem. -/
namespace Go.Mv
open Go.RowKit
variable {P : Program}

theorem Has.setCells {g : Nat} {T : TypeId} : ∀ (cs : List Value) (o : Nat) (L : List Value) (w : World), Has w g L T → o + cs.length ≤ L.length → Has (w.setCells g o cs) g (splice L o cs) T ∧ Fr (One g) w (w.setCells g o cs) ∧ (w.setCells g o cs).heap.size = w.heap.size
  | [], o, L, w, h, _ => ⟨by rw [splice_nil]; exact h, Fr.refl _ _, rfl⟩
  | v :: cs, o, L, w, h, hl => by
    simp only [List.length_cons] at hl
    obtain ⟨h1, h2, h3⟩ := Has.setCells cs (o + 1) (L.set o v) (w.setCell ⟨g, o, none⟩ v) (h.set o v) (by simp; omega)
    rw [splice_cons L o v cs (by omega)] at h1
    refine ⟨h1, ((Fr.refl (One g) w).setCell g o none v (fun _ => rfl)).trans h2 (fun _ _ t => t), ?_⟩
    show ((w.setCell ⟨g, o, none⟩ v).setCells g (o + 1) cs).heap.size = _
    rw [h3]; simp [World.setCell]

theorem Has.range {w : World} {g : Nat} {L : List Value} {T : TypeId} (h : Has w g L T) (o : Nat) (cs : List Value) (hcs : (L.drop o).take cs.length = cs) : w.rangeAt g o cs := by
  intro j v hv
  rw [h.get]
  have : j < cs.length := by
    rcases Nat.lt_or_ge j cs.length with k | k
    · exact k
    · simp [List.getElem?_eq_none k] at hv
  rw [← hcs, List.getElem?_take, if_pos this, List.getElem?_drop] at hv
  exact hv
theorem Has.there {w : World} {g : Nat} {L : List Value} {T : TypeId} (h : Has w g L T) (o n : Nat) (hn : o + n ≤ L.length) : w.there g o n := by
  intro j hj
  obtain ⟨v, h1, h2⟩ := h.ready (i := o + j) (by omega)
  exact ⟨by rw [h1]; rfl, h2⟩

section
variable {w : World} {ops : Array Oper} {rest : List Oper} {o : Oper} {a : Act} {Q : Exit → Act → World → Prop}
/-- a whole array is read -/
theorem wl_loadA {ty : TypeId} {x : Operand} (hgd : o.guard = none) (ho : o.op = .load ty x) {n : Nat} {e : TypeId} (hu : P.underlying ty = some (.array n e)) {g p : Nat} (hx : a.eval x = .pointer (some ⟨g, p, none⟩))
    {L : List Value} {T : TypeId} (hg : Has w g L T) (cs : List Value) (hcs : (L.drop p).take cs.length = cs) (hi : (P.info? ty).map (·.size) = some cs.length)
    (h : wpList P ops Q rest (a.put o.dst (.agg cs.toArray)) w) : wpList P ops Q (o :: rest) a w :=
  wpList_load_mid hgd ty x ho g p hx cs _ (hg.range p cs hcs) hu rfl hi h
/-- a whole array is stored -/
theorem wl_storeA {ty : TypeId} {x y : Operand} (hgd : o.guard = none) (ho : o.op = .store ty x y) {g p : Nat} (hx : a.eval x = .pointer (some ⟨g, p, none⟩)) {cs : List Value} (hy : a.eval y = .agg cs.toArray)
    {L : List Value} {T : TypeId} (hg : Has w g L T) (hn : p + cs.length ≤ L.length) (hi : (P.info? ty).map (·.size) = some cs.length) (h1 : ∀ v ∈ cs, v.oneCell' = true)
    (h : ∀ w', Has w' g (splice L p cs) T → Fr (One g) w w' → w'.heap.size = w.heap.size → wpList P ops Q rest (a.put o.dst undef) w') : wpList P ops Q (o :: rest) a w := by
  obtain ⟨k1, k2, k3⟩ := Has.setCells cs p L w hg hn
  exact wpList_store_mid hgd ty x y ho g p cs.toArray hx hy (by simpa using hg.there p cs.length hn) (by simpa using hi) (all_oneCell_toArray h1) (by simpa using h _ k1 k2 k3)
end

theorem splice_whole (L cs : List Value) (h : cs.length = L.length) : splice L 0 cs = cs := by
  simp [splice, h]

/-- the result is an array in memory -/
theorem results_arr {fn : Func} {p : Tmp} {ty : TypeId} (h : fn.results = #[.cell p ty]) {tmps : Array Value} {w : World} {g : Nat} {L : List Value} {T : TypeId}
    (hp : tmps.getD p undef = .pointer (some ⟨g, 0, none⟩)) (hg : Has w g L T) {n : Nat} {e : TypeId} (hu : P.underlying ty = some (.array n e)) (hi : (P.info? ty).map (·.size) = some L.length) :
    (results fn tmps).run P w = .ok (.agg L.toArray) w := by
  obtain ⟨lo, hi', hh, -⟩ := hg
  exact results_cell_row h tmps w g T L.toArray _ _ hp hh hu rfl (by simpa using hi)

open Mvp in
/-- a row of bytes that is filled from the left -/
theorem Has.fillB {w : World} {g : Nat} {T : TypeId} {F I : List UInt8} {k : Nat} (h : Has w g (bs (fill F I k)) T) (hl : F.length = I.length) (hk : k < F.length) : Has (w.setCell ⟨g, k, none⟩ (.int .u8 ((F.getD k 0).toNat : Int))) g (bs (fill F I (k + 1))) T := by
  have := h.set k (.int .u8 ((F.getD k 0).toNat : Int))
  rwa [bs_set, fill_set _ _ _ hl hk] at this

section
variable {w : World} {ops : Array Oper} {rest : List Oper} {o : Oper} {a : Act} {Q : Exit → Act → World → Prop}
/-- a new variable -/
theorem wl_alloc {e : TypeId} (hgd : o.guard = none) (ho : o.op = .alloc e) {z : Value} (hi : (P.info? e).map (·.zero) = some (some z)) (L : List Value) (hL : z.cells.toList = L)
    (h : ∀ w', Has w' w.heap.size L e → Fr Nob w w' → w'.heap.size = w.heap.size + 1 → wpList P ops Q rest (a.put o.dst (.pointer (some ⟨w.heap.size, 0, none⟩))) w') : wpList P ops Q (o :: rest) a w := by
  refine wpList_plain hgd fun K hK => ?_
  obtain ⟨i, hi1, hz⟩ : ∃ i, P.info? e = some i ∧ i.zero = some z := by simpa using hi
  have hr : (Instr.alloc e true (.tuple #[])).run P w = .ok (.pointer (some ⟨w.heap.size, 0, none⟩)) (w.alloc (.cells z.cells e)) := by
    simp [Instr.alloc, zeroValue, typeInfo, hi1, hz, newVar, newRow]
  unfold Oper.wp execOp
  simp only [ho, Sem.run_bind, Sem.run_pure, Result.andThen_ok, hr]
  refine hK _ _ (h _ ?_ ((Fr.refl _ w).alloc _) (by simp))
  have := Has.new w z.cells e
  rwa [hL] at this
end

section
variable {w : World} {ops : Array Oper} {rest : List Oper} {o : Oper} {a : Act} {Q : Exit → Act → World → Prop}
theorem run_sliceBound (k : IntKind) (n y : Nat) (code : BoundsCode) (h : n ≤ y) : (Instr.sliceBound (.int k (n : Int)) y code).run P w = .ok n w := by
  have : ((n : Int) ≤ (y : Int)) := by omega
  simp [Instr.sliceBound, asIntOf, this]

/-- an array in memory, cut: x[l:h:m] -/
theorem wl_cutA {ty : TypeId} {x lo hi mx : Operand} (hgd : o.guard = none) (ho : o.op = .slice ty x (some lo) (some hi) (some mx)) {n : Nat} {e : TypeId} (hu : P.underlying ty = some (.array n e)) (hsz : (P.info? e).map (·.size) = some 1)
    {g p : Nat} (hx : a.eval x = .pointer (some ⟨g, p, none⟩)) {kl kh km : IntKind} {il ih im : Int} (hl : a.eval lo = .int kl il) (hh : a.eval hi = .int kh ih) (hm : a.eval mx = .int km im)
    (l h m : Nat) (el : il = l) (eh : ih = h) (em : im = m) (h1 : l < m) (h2 : l ≤ h) (h3 : h ≤ m) (h4 : m ≤ n)
    (hK : wpList P ops Q rest (a.put o.dst (.slice (some ⟨g, p + l, none⟩) (h - l) (m - l))) w) : wpList P ops Q (o :: rest) a w := by
  refine wpList_plain hgd fun K hK' => ?_
  obtain ⟨i, hi1, hi2⟩ : ∃ i, P.info? e = some i ∧ i.size = 1 := by simpa using hsz
  subst el eh em
  have hr : (Instr.sliceAt ty (.pointer (some ⟨g, p, none⟩)) (some (.int kl (l : Int))) (some (.int kh (h : Int))) (some (.int km (m : Int)))).run P w = .ok (.slice (some ⟨g, p + l, none⟩) (h - l) (m - l)) w := by
    have hne : ¬ m = l := by omega
    simp [Instr.sliceAt, run_underlying hu, Instr.sliceBounds, run_sliceBound, h2, h3, h4, sizeOf, typeInfo, hi1, hi2, hne, addr_add, Instr.sureAddr]
  unfold Oper.wp execOp
  simp only [ho, hx, hl, hh, hm, Option.map_some, Sem.run_bind, Sem.run_pure, Result.andThen_ok, hr]
  exact hK' _ _ hK

/-- where a cut of a slice lies -/
def cutAt (p : Option Addr) (l m : Nat) : Option Addr := if m = l then p else p.map (·.add l)
theorem cutAt_rd {w : World} {p : Option Addr} {n : Nat} {vs : List Value} (hr : Rd w p n vs) (l h m : Nat) (h2 : l ≤ h) (h3 : h ≤ m) (h4 : h ≤ n) : Rd w (cutAt p l m) (h - l) ((vs.drop l).take (h - l)) := by
  have hlen := hr.len
  refine ⟨by simp; omega, ?_⟩
  rcases Nat.eq_zero_or_pos (h - l) with h0 | h0
  · exact .inl h0
  · obtain ⟨b, o, rfl, hc⟩ := hr.at (by omega)
    refine .inr ⟨b, o + l, ?_, hc.sub l (h - l)⟩
    simp [cutAt, show ¬ m = l by omega, addr_add]
theorem cutAt_block {p : Option Addr} {l m : Nat} {x : Addr} (h : cutAt p l m = some x) : ∃ y, p = some y ∧ y.block = x.block := by
  unfold cutAt at h
  split at h
  · exact ⟨x, h, rfl⟩
  · cases p with
    | none => cases h
    | some y =>
      refine ⟨y, rfl, ?_⟩
      simp only [Option.map_some, Option.some.injEq] at h
      subst h
      unfold Addr.add
      split <;> rfl
theorem cutAt_off {S : Nat → Prop} {p : Option Addr} (h : Off S p) (l m : Nat) : Off S (cutAt p l m) := by
  intro x hx
  obtain ⟨y, hy, e⟩ := cutAt_block hx
  rw [← e]; exact h y hy

/-- a slice of one-cell elements, cut: x[l:h] -/
theorem wl_cut {ty : TypeId} {x : Operand} {lo hi : Option Operand} (hgd : o.guard = none) (ho : o.op = .slice ty x lo hi none) {e : TypeId} (hu : P.underlying ty = some (.slice e)) (hsz : (P.info? e).map (·.size) = some 1)
    {p : Option Addr} {n c : Nat} (hx : a.eval x = .slice p n c) (l h : Nat) (hl : lo.elim (l = 0) (fun y => ∃ k, a.eval y = .int k (l : Int))) (hh : hi.elim (h = n) (fun y => ∃ k, a.eval y = .int k (h : Int))) (h2 : l ≤ h) (h3 : h ≤ c)
    (hK : wpList P ops Q rest (a.put o.dst (.slice (cutAt p l c) (h - l) (c - l))) w) : wpList P ops Q (o :: rest) a w := by
  refine wpList_plain hgd fun K hK' => ?_
  obtain ⟨i, hi1, hi2⟩ : ∃ i, P.info? e = some i ∧ i.size = 1 := by simpa using hsz
  have hr : (Instr.sliceAt ty (.slice p n c) (lo.map a.eval) (hi.map a.eval) none).run P w = .ok (.slice (cutAt p l c) (h - l) (c - l)) w := by
    cases lo with
    | none =>
      simp only [Option.elim] at hl
      subst hl
      cases hi with
      | none =>
        simp only [Option.elim] at hh
        subst hh
        simp [Instr.sliceAt, Instr.slice, run_underlying hu, Instr.sliceBounds, sizeOf, typeInfo, hi1, cutAt]
      | some y =>
        obtain ⟨k, hk⟩ := hh
        simp [Instr.sliceAt, Instr.slice, run_underlying hu, Instr.sliceBounds, run_sliceBound, h3, sizeOf, typeInfo, hi1, cutAt, hk]
    | some z =>
      obtain ⟨kz, hkz⟩ := hl
      cases hi with
      | none =>
        simp only [Option.elim] at hh
        subst hh
        simp [Instr.sliceAt, Instr.slice, run_underlying hu, Instr.sliceBounds, run_sliceBound, h2, sizeOf, typeInfo, hi1, hi2, cutAt, hkz]
      | some y =>
        obtain ⟨k, hk⟩ := hh
        simp [Instr.sliceAt, Instr.slice, run_underlying hu, Instr.sliceBounds, run_sliceBound, h2, h3, sizeOf, typeInfo, hi1, hi2, cutAt, hk, hkz]
  unfold Oper.wp execOp
  simp only [ho, hx, Option.map_none, Sem.run_bind, Sem.run_pure, Result.andThen_ok, hr]
  exact hK' _ _ hK
/-- a slice of one-cell elements, cut: x[l:h:m] -/
theorem wl_cut3 {ty : TypeId} {x : Operand} {lo : Option Operand} {hi mx : Operand} (hgd : o.guard = none) (ho : o.op = .slice ty x lo (some hi) (some mx)) {e : TypeId} (hu : P.underlying ty = some (.slice e)) (hsz : (P.info? e).map (·.size) = some 1)
    {p : Option Addr} {n c : Nat} (hx : a.eval x = .slice p n c) (l h m : Nat) (hl : lo.elim (l = 0) (fun y => ∃ k, a.eval y = .int k (l : Int))) {kh km : IntKind} {ih im : Int} (hh : a.eval hi = .int kh ih) (hm : a.eval mx = .int km im) (eh : ih = h) (em : im = m) (h2 : l ≤ h) (h3 : h ≤ m) (h4 : m ≤ c)
    (hK : wpList P ops Q rest (a.put o.dst (.slice (cutAt p l m) (h - l) (m - l))) w) : wpList P ops Q (o :: rest) a w := by
  refine wpList_plain hgd fun K hK' => ?_
  obtain ⟨i, hi1, hi2⟩ : ∃ i, P.info? e = some i ∧ i.size = 1 := by simpa using hsz
  subst eh em
  have hr : (Instr.sliceAt ty (.slice p n c) (lo.map a.eval) (some (a.eval hi)) (some (a.eval mx))).run P w = .ok (.slice (cutAt p l m) (h - l) (m - l)) w := by
    cases lo with
    | none =>
      simp only [Option.elim] at hl
      subst hl
      simp [Instr.sliceAt, Instr.slice, run_underlying hu, Instr.sliceBounds, run_sliceBound, h3, h4, sizeOf, typeInfo, hi1, cutAt, hh, hm]
    | some z =>
      obtain ⟨kz, hkz⟩ := hl
      simp [Instr.sliceAt, Instr.slice, run_underlying hu, Instr.sliceBounds, run_sliceBound, h2, h3, h4, sizeOf, typeInfo, hi1, hi2, cutAt, hkz, hh, hm]
  unfold Oper.wp execOp
  simp only [ho, hx, Option.map_some, Sem.run_bind, Sem.run_pure, Result.andThen_ok, hr]
  exact hK' _ _ hK
end

theorem Rd.lt {w : World} {b o n : Nat} {vs : List Value} (h : Rd w (some ⟨b, o, none⟩) n vs) (hn : 0 < n) : b < w.heap.size := by
  obtain ⟨b', o', he, hc⟩ := h.at hn
  simp only [Option.some.injEq, Addr.mk.injEq] at he
  obtain ⟨rfl, rfl, -⟩ := he
  have := hc.cell (i := 0) (by rw [h.len]; exact hn)
  exact block_lt_of_cell this
theorem cell_other (w : World) (g i : Nat) (v : Value) (b j : Nat) (h : b ≠ g) : (w.setCell ⟨g, i, none⟩ v).cell? ⟨b, j, none⟩ = w.cell? ⟨b, j, none⟩ :=
  World.cell?_of_block (a := ⟨b, j, none⟩) (heap_setCell_other w ⟨g, i, none⟩ b v h)
end Go.Mv

/- how far the lanes are turned -/
namespace Go.Proofs.YtgkakddldobpkaaDoor
open Go.RowKit Go.Mv Mvp

theorem size_a25i : (Tryd.prog.info? 89).map (·.size) = some 25 := by kernel_rfl
theorem info_int : (Tryd.prog.info? 3).map (fun i => (i.zero, i.size, i.bytes)) = some (some (.int .i64 0), 1, 8) := by kernel_rfl
theorem turnsK_succ (k : Nat) : turnsK (k + 1) = turnStep (turnsK k) k := by simp [turnsK, List.range_succ]
theorem turnsK_len (k : Nat) : (turnsK k).length = 25 := by
  induction k with
  | zero => simp [turnsK]
  | succ k ih => rw [turnsK_succ]; simp [turnStep, ih]

set_option maxHeartbeats 800000 in
theorem turns_any (w : World) :
    Calls Tryd.prog 54 #[] w fun e w' => e = .returned (.agg (is (turnsK 24)).toArray) ∧ Fr Nob w w' := by
  go_enter Tryd.func54, Tryd.ntmps54
  go_wp2
  go_loopw [1, 2, 4] (fun x y i wr => ∃ k : Nat, k ≤ 24 ∧ i = .int .i64 k ∧ x = .int .i64 ((xy k).1 : Nat) ∧ y = .int .i64 ((xy k).2 : Nat) ∧ Has wr w.heap.size (is (turnsK k)) 89 ∧ Fr Nob w wr) (fun _ _ i _ => (24 - intOf i).toNat)
  case atStart =>
    refine ⟨0, by omega, rfl, rfl, rfl, ?_, (Fr.refl _ _).alloc _⟩
    exact Has.new w _ _
  case round =>
    obtain ⟨k, hk, rfl, rfl, rfl, hh, hf⟩ := hrel
    have hxy := xy_lt k
    by_cases hlt : k < 24
    · obtain ⟨v0, hc, hfr⟩ := hh.ready (i := (xy k).1 + 5 * (xy k).2) (by rw [length_is, turnsK_len]; omega)
      have hp : (0 : Int) ≤ ((k : Int) + 1) * ((k : Int) + 2) ∧ ((k : Int) + 1) * ((k : Int) + 2) ≤ 650 := by
        refine ⟨Int.mul_nonneg (by omega) (by omega), ?_⟩
        have := Int.mul_le_mul (show (k : Int) + 1 ≤ 24 by omega) (show (k : Int) + 2 ≤ 25 by omega) (by omega) (by omega)
        omega
      go_wp2
      go_roundw
      case rel =>
        refine ⟨k + 1, by omega, by go_num, rfl, by simp [xy], ?_, hf.setCell _ _ _ _ (fun h => absurd h (Nat.lt_irrefl _))⟩
        have e : ((k : Int) + 1) * ((k : Int) + 2) / 2 % 64 = (((k + 1) * (k + 2) / 2 % 64 : Nat) : Int) := by simp
        rw [e, turnsK_succ, turnStep, ← is_set]
        exact hh.set _ _
      case measure => simp [intOf]; omega
    · go_wp2_with (first | (with_reducible refine wl_stop (o := ⟨some 27, _, _, _, _, _⟩) ?_))
      have hk24 : k = 24 := by omega
      subst hk24
      refine wl_loadA rfl rfl Tryd.underlying89 rfl hh (is (turnsK 24)) (by simp) (by rw [length_is, turnsK_len]; exact size_a25i) ?_
      go_wp2_with (first | (with_reducible refine wl_stop (o := ⟨none, .store 89 _ _, _, _, _, _⟩) ?_))
      refine wl_storeA rfl rfl rfl rfl hh (by simp) (by rw [length_is, turnsK_len]; exact size_a25i) ?_ ?_
      · intro v hv; simp [is] at hv; obtain ⟨x, _, rfl⟩ := hv; rfl
      intro w2 hh2 hf2 hz2
      go_wp2
      rw [splice_whole _ _ rfl] at hh2
      exact bodyPost_ret (results_arr rfl rfl hh2 Tryd.underlying89 (by rw [length_is, turnsK_len]; exact size_a25i)) rfl ⟨rfl, hf.new hf2 (Nat.le_refl _)⟩

set_option maxHeartbeats 800000 in
theorem offsets_any (w : World) :
    Calls Tryd.prog 51 #[] w fun e w' => e = .returned (.slice (some ⟨w.heap.size, 0, none⟩) 25 25) ∧ Has w' w.heap.size (is (turnsK 24)) 3 ∧ Fr Nob w w' := by
  go_enter Tryd.func51, Tryd.ntmps51
  go_wp2_with (at_make; refine wl_make rfl rfl Tryd.underlying84 info_int rfl rfl rfl 25 25 (by simp) (by simp) (by omega) (by omega) (by unfold maxLen; omega) ?_; intro w1 hw1 hf1 hz1)
  go_loopw [2, 3, 4] (fun x y i wr => ∃ k : Nat, k ≤ 24 ∧ i = .int .i64 k ∧ x = .int .i64 ((xy k).1 : Nat) ∧ y = .int .i64 ((xy k).2 : Nat) ∧ Has wr w.heap.size (is (turnsK k)) 3 ∧ Fr Nob w wr) (fun _ _ i _ => (24 - intOf i).toNat)
  case atStart => exact ⟨0, by omega, rfl, rfl, rfl, hw1, hf1⟩
  case round =>
    obtain ⟨k, hk, rfl, rfl, rfl, hh, hf⟩ := hrel
    have hxy := xy_lt k
    by_cases hlt : k < 24
    · have hpl : place (xy k).1 (xy k).2 = (xy k).1 + 5 * (xy k).2 := by unfold place; rw [Nat.mod_eq_of_lt hxy.1, Nat.mod_eq_of_lt hxy.2]
      have HP := Lib.hid hpl; clear hpl
      have hpb : place (xy k).1 (xy k).2 < 25 := by rw [HP.out]; omega
      obtain ⟨v0, hc, hfr⟩ := hh.ready (i := place (xy k).1 (xy k).2) (by rw [length_is, turnsK_len]; omega)
      have hp : (0 : Int) ≤ ((k : Int) + 1) * ((k : Int) + 2) ∧ ((k : Int) + 1) * ((k : Int) + 2) ≤ 650 := by
        refine ⟨Int.mul_nonneg (by omega) (by omega), ?_⟩
        have := Int.mul_le_mul (show (k : Int) + 1 ≤ 24 by omega) (show (k : Int) + 2 ≤ 25 by omega) (by omega) (by omega)
        omega
      go_wp2_with (go_at_call 58; refine (place_any _ _ _ (by omega) (by omega) (by omega) (by omega)).mono ?_; rintro e w' ⟨rfl, rfl⟩)
      go_roundw
      case rel =>
        refine ⟨k + 1, by omega, by go_num, rfl, by simp [xy], ?_, hf.setCell _ _ _ _ (fun h => absurd h (Nat.lt_irrefl _))⟩
        have e : ((k : Int) + 1) * ((k : Int) + 2) / 2 % 64 = (((k + 1) * (k + 2) / 2 % 64 : Nat) : Int) := by simp
        rw [e, turnsK_succ, turnStep, ← is_set, ← HP.out]
        exact hh.set _ _
      case measure => simp [intOf]; omega
    · go_wp2
      have hk24 : k = 24 := by omega
      subst hk24
      go_ret
      exact ⟨rfl, hh, hf⟩
end Go.Proofs.YtgkakddldobpkaaDoor

/- the state: bytes are added, and given -/
namespace Go.Proofs.YtgkakddldobpkaaDoor
open Go.RowKit Go.Mv Mvp

set_option maxHeartbeats 800000 in
/-- xor: the state lies at the beginning of block g -/
theorem xor_any (g : Nat) (S : List UInt64) (tail : List Value) (T : TypeId) (b : Option Addr) (n c : Nat) (l : List UInt8) (w : World) (hS : S.length = 25) (hn : n ≤ 200) (hg : Has w g (ws S ++ tail) T) (hb : RdB w b n l) (hbg : Off (One g) b) :
    Calls Tryd.prog 48 #[.pointer (some ⟨g, 0, none⟩), .slice b n c] w fun e w' => e = .returned (.tuple #[]) ∧ Has w' g (ws (xorB S l n) ++ tail) T ∧ Fr (One g) w w' ∧ w'.heap.size = w.heap.size := by
  go_enter Tryd.func48, Tryd.ntmps48
  go_wp2
  go_loopw [8] (fun i wr => ∃ k : Nat, k ≤ n ∧ i = .int .i64 k ∧ Has wr g (ws (xorB S l k) ++ tail) T ∧ Fr (One g) w wr ∧ wr.heap.size = w.heap.size) (fun i _ => (n - intOf i).toNat)
  case atStart => exact ⟨0, by omega, rfl, hg, Fr.refl _ _, rfl⟩
  case round =>
    obtain ⟨k, hk, rfl, hh, hf, hz⟩ := hrel
    by_cases hlt : k < n
    · obtain ⟨bb, o, rfl, hcb0⟩ := (hb.keep hf hbg).at (by omega)
      have hcb := hcb0 k hlt
      clear hcb0
      have hlen := xorB_len S l k
      have hi8 : k / 8 < (ws (xorB S l k)).length := by rw [length_ws, hlen]; omega
      have hc : wr.cell? ⟨g, k / 8, none⟩ = some (.int .u64 (((xorB S l k).getD (k / 8) 0).toNat : Int)) := hh.cell (by rw [List.getElem?_append_left hi8]; exact ws_get _ _ (by rw [hlen]; omega))
      have hfr : wr.frozen? ⟨g, k / 8, none⟩ = false := hh.free _ (by rw [List.length_append]; omega)
      have hlo : (0 : Int) ≤ (k : Int) / 8 ∧ (k : Int) / 8 < 25 := by omega
      generalize hy : (xorB S l k).getD (k / 8) 0 = y at hc
      generalize hx : l.getD k 0 = x at hcb
      have HY := Lib.hid hy; clear hy
      have HX := Lib.hid hx; clear hx
      have HL := Lib.hid hlen; clear hlen hi8
      have HZ := Lib.hid hz; clear hz
      go_wp2
      go_region
      all_goals go_wp2
      go_roundw
      case rel =>
        refine ⟨k + 1, by omega, by go_num, ?_, (hf.setCell _ _ _ _ (fun _ => rfl)).drew, by have := HZ.out; simpa [World.setCell] using this⟩
        have h1 := (hh.set (k / 8) (.int .u64 ((wx y (shl (wid x) (8 * (k % 8)))).toNat : Int))).drew
        rw [List.set_append_left _ _ (by rw [length_ws, HL.out]; omega), ws_set, ← HY.out, ← HX.out] at h1
        rw [xorB_succ, xorStep, ← HY.out, ← HX.out]
        exact h1
      case measure => simp [intOf]; omega
    · go_wp2
      go_end0
      have : k = n := by omega
      subst this
      exact ⟨rfl, hh, hf, hz⟩
end Go.Proofs.YtgkakddldobpkaaDoor

/- the state's bytes; Permute -/
namespace Go.Proofs.YtgkakddldobpkaaDoor
open Go.RowKit Go.Mv Mvp

theorem toB_at (S : List UInt64) (n i : Nat) (h : i < n) : (toB S n).getD i 0 = sByte S i := by
  simp [toB, List.getD_eq_getElem?_getD, List.getElem?_range h]

set_option maxHeartbeats 800000 in
theorem bytes_any (g : Nat) (S : List UInt64) (tail : List Value) (T : TypeId) (n : Nat) (w : World) (hS : S.length = 25) (hn : n ≤ 200) (hg : Has w g (ws S ++ tail) T) :
    Calls Tryd.prog 50 #[.pointer (some ⟨g, 0, none⟩), .int .i64 (n : Int)] w fun e w' => e = .returned (.slice (some ⟨w.heap.size, 0, none⟩) n n) ∧ Has w' w.heap.size (bs (toB S n)) 5 ∧ Fr Nob w w' ∧ w'.heap.size = w.heap.size + 1 := by
  go_enter Tryd.func50, Tryd.ntmps50
  go_wp2_with (at_make; refine wl_make rfl rfl Tryd.underlying26 info_u8 rfl rfl rfl n n rfl rfl (by omega) (by omega) (by unfold maxLen; omega) ?_; intro w1 hw1 hf1 hz1)
  have hgl := hg.lt
  go_loopw [11] (fun i wr => ∃ k : Nat, k ≤ n ∧ i = .int .i64 k ∧ Has wr w.heap.size (bs (fill (toB S n) (List.replicate n 0) k)) 5 ∧ Has wr g (ws S ++ tail) T ∧ Fr Nob w wr ∧ wr.heap.size = w.heap.size + 1) (fun i _ => (n - intOf i).toNat)
  case atStart =>
    refine ⟨0, by omega, rfl, ?_, hg.keep hf1 id, hf1, hz1⟩
    rw [fill_zero]; simpa [bs] using hw1
  case round =>
    obtain ⟨k, hk, rfl, hh, hg2, hf, hz⟩ := hrel
    by_cases hlt : k < n
    · obtain ⟨v0, hc0, hfr0⟩ := hh.ready (i := k) (by rw [length_bs, fill_length _ _ _ (by simp [toB_len])]; simpa using hlt)
      have hi8 : k / 8 < (ws S).length := by rw [length_ws, hS]; omega
      have hc : wr.cell? ⟨g, k / 8, none⟩ = some (.int .u64 ((S.getD (k / 8) 0).toNat : Int)) := hg2.cell (by rw [List.getElem?_append_left hi8]; exact ws_get _ _ (by rw [hS]; omega))
      have hlo : (0 : Int) ≤ (k : Int) / 8 ∧ (k : Int) / 8 < 25 := by omega
      generalize hy : S.getD (k / 8) 0 = y at hc
      have HY := Lib.hid hy; clear hy
      have HS := Lib.hid hS; clear hS hi8
      have HZ := Lib.hid hz; clear hz hz1 hw1
      go_wp2
      go_roundw
      case rel =>
        have e : (toB S n).getD k 0 = lo8 (shr y (8 * (k % 8))) := by rw [toB_at S n k hlt, sByte, HY.out]
        refine ⟨k + 1, by omega, by go_num, ?_, hg2.other _ _ _ (by omega), hf.setCell _ _ _ _ (fun h => absurd h (Nat.lt_irrefl _)), by have := HZ.out; simpa [World.setCell] using this⟩
        rw [← e]
        exact hh.fillB (by simp [toB_len]) (by simpa [toB_len] using hlt)
      case measure => simp [intOf]; omega
    · go_wp2
      go_ret
      obtain rfl : k = n := by omega
      rw [fill_all _ _ _ (by simp [toB_len]) (by simp [toB_len])] at hh
      exact ⟨rfl, hh, hf, hz⟩
end Go.Proofs.YtgkakddldobpkaaDoor

/- the permutation of the program -/
namespace Go.Proofs.YtgkakddldobpkaaDoor
open Go.RowKit Go.Mv Mvp

theorem colP_succ (s : List UInt64) (k : Nat) : colP s (k + 1) = colStep s (colP s k) k := by simp [colP, List.range_succ]
theorem colP_len (s : List UInt64) (k : Nat) : (colP s k).length = 5 := by
  induction k with
  | zero => simp [colP]
  | succ k ih => rw [colP_succ]; simp [colStep, ih]
theorem movP_succ (s c : List UInt64) (t : List Nat) (k : Nat) : movP s c t (k + 1) = movStep s c t (movP s c t k) k := by simp [movP, List.range_succ]
theorem movP_len (s c : List UInt64) (t : List Nat) (k : Nat) : (movP s c t k).length = 25 := by
  induction k with
  | zero => simp [movP]
  | succ k ih => rw [movP_succ]; simp [movStep, ih]

theorem size_a25 : (Tryd.prog.info? 76).map (·.size) = some 25 := by kernel_rfl
theorem zero_a25i : (Tryd.prog.info? 89).map (·.zero) = some (some (.agg (is (List.replicate 25 0)).toArray)) := by kernel_rfl
theorem zero_state : (Tryd.prog.info? 77).map (·.zero) = some (some (.agg (ws (List.replicate 25 0)).toArray)) := by kernel_rfl
theorem zero_a5 : (Tryd.prog.info? 91).map (·.zero) = some (some (.agg (ws (List.replicate 5 0)).toArray)) := by kernel_rfl

theorem size_u64 : (Tryd.prog.info? 40).map (·.size) = some 1 := by kernel_rfl
theorem permP_zero (t : List Nat) (rc : Nat → UInt64) (s : List UInt64) : permP t rc s 0 = s := by simp [permP]

theorem chiP_zero (m s : List UInt64) : chiP m s 0 = s := by simp [chiP]
theorem chiP_succ (m s : List UInt64) (k : Nat) : chiP m s (k + 1) = chiRow m (chiP m s k) (5 * k) 5 := by simp [chiP, List.range_succ]
theorem chiRow_zero (m s : List UInt64) (y : Nat) : chiRow m s y 0 = s := by simp [chiRow]
theorem chiRow_succ (m s : List UInt64) (y k : Nat) : chiRow m s y (k + 1) = chiStep m y (chiRow m s y k) k := by simp [chiRow, List.range_succ]
theorem chiRow_len (m s : List UInt64) (y k : Nat) : (chiRow m s y k).length = s.length := by
  induction k with
  | zero => simp [chiRow]
  | succ k ih => rw [chiRow_succ]; simp [chiStep, ih]
theorem turns_lt (k : Nat) : (turnsK 24).getD k 0 < 64 := by
  have h : ∀ k, k < 25 → (turnsK 24).getD k 0 < 64 := by decide +kernel
  rcases Nat.lt_or_ge k 25 with hk | hk
  · exact h k hk
  · rw [List.getD_eq_getElem?_getD, List.getElem?_eq_none (by rw [turnsK_len]; exact hk)]; simp
theorem goesTo_lt (k : Nat) (hk : k < 25) : goesTo k < 25 := by
  have h : ∀ k, k < 25 → goesTo k < 25 := by decide +kernel
  exact h k hk

theorem goesTo_same (k : Nat) (w : World) (hk : k ≤ 25) : Calls Tryd.prog 56 #[.int .i64 (k : Int)] w fun e w' => e = .returned (.int .i64 ((goesTo k : Nat) : Int)) ∧ w' = w :=
  (goesTo_any k w (by omega)).mono (fun _ _ h => ⟨h.1, h.2.symm⟩)
theorem rot_same (x : UInt64) (n : Nat) (hn : n < 64) (w : World) : Calls Tryd.prog 55 #[.int .u64 (x.toNat : Int), .int .i64 (n : Int)] w fun e w' => e = .returned (.int .u64 ((rotl x n).toNat : Int)) ∧ w' = w :=
  (rot_any x n hn w).mono (fun _ _ h => ⟨h.1, h.2.symm⟩)
theorem constP_same (r : Nat) (hr : r < 24) (w : World) : Calls Tryd.prog 57 #[.int .i64 (r : Int)] w fun e w' => e = .returned (.int .u64 ((rcP r 8).toNat : Int)) ∧ w' = w :=
  (constP_any r hr w).mono (fun _ _ h => ⟨h.1, h.2.symm⟩)
theorem rot1_any (x : UInt64) (w : World) : Calls Tryd.prog 55 #[.int .u64 (x.toNat : Int), .int .i64 1] w fun e w' => e = .returned (.int .u64 ((rotl x 1).toNat : Int)) ∧ w' = w :=
  (rot_any x 1 (by omega) w).mono (fun _ _ h => ⟨h.1, h.2.symm⟩)

set_option maxHeartbeats 4000000 in
set_option maxRecDepth 1000000 in
theorem permute_any (g : Nat) (S : List UInt64) (tail : List Value) (T : TypeId) (w : World) (hS : S.length = 25) (hg : Has w g (ws S ++ tail) T) :
    Calls Tryd.prog 49 #[.pointer (some ⟨g, 0, none⟩)] w fun e w' => e = .returned (.tuple #[]) ∧ Has w' g (ws (permP (turnsK 24) (fun r => rcP r 8) S 24) ++ tail) T ∧ Fr (One g) w w' := by
  go_enter Tryd.func49, Tryd.ntmps49
  go_wp2_with (first
    | (go_at_call 54; refine (turns_any _).mono ?_; rintro e w1 ⟨rfl, hf1⟩)
    | (with_reducible refine wl_stop (o := ⟨_, .alloc 89, _, _, _, _⟩) ?_))
  have hgl := hg.lt
  refine wl_alloc rfl rfl zero_a25i (is (List.replicate 25 0)) (by simp [Value.cells]) ?_
  intro w2 hb2 hf2 hz2
  have hg2 := (hg.keep hf1 id).keep hf2 id
  have hgs := hf1.size
  generalize hbt : w1.heap.size = bt at *
  go_wp2_with (with_reducible refine wl_stop (o := ⟨none, .store 89 _ _, _, _, _, _⟩) ?_)
  refine wl_storeA rfl rfl rfl rfl hb2 (by simp [length_is, turnsK_len]) (by rw [length_is, turnsK_len]; exact size_a25i) ?_ ?_
  · intro v hv; simp [is] at hv; obtain ⟨x, _, rfl⟩ := hv; rfl
  intro w3 hb3 hf3 hz3
  rw [splice_whole _ _ (by simp [length_is, turnsK_len])] at hb3
  have hg3 := hg2.keep hf3 (fun (h : g = bt) => by omega)
  have hfr : Fr (One g) w w3 := ((Fr.refl (One g) w).same hf1).same hf2 |>.new hf3 (by omega)
  clear hb2 hg2 hf1 hf2 hf3 hg
  go_wp2_with fail
  go_loopw [15] (fun i wr => ∃ r : Nat, r ≤ 24 ∧ i = .int .i64 r ∧ Has wr g (ws (permP (turnsK 24) (fun r => rcP r 8) S r) ++ tail) T ∧ Has wr bt (is (turnsK 24)) 89 ∧ Fr (One g) w wr) (fun i _ => (24 - intOf i).toNat)
  case atStart => exact ⟨0, by omega, rfl, by rw [permP_zero]; exact hg3, hb3, hfr⟩
  case round =>
    obtain ⟨r, hr, rfl, hgr, hbr, hf⟩ := hrel
    clear hg3 hb3 hfr
    by_cases hlt : r < 24
    · have hltI : (r : Int) < 24 := by omega
      have hpl := permP_len (turnsK 24) (fun r => rcP r 8) S r
      rw [hS] at hpl
      generalize hrs : permP (turnsK 24) (fun r => rcP r 8) S r = s at *
      have HR := Lib.hid hrs; clear hrs
      go_wp2_with (with_reducible refine wl_stop (o := ⟨_, .alloc 91, _, _, _, _⟩) ?_)
      refine wl_alloc rfl rfl zero_a5 (ws (List.replicate 5 0)) (by simp [Value.cells]) ?_
      intro w4 hc4 hf4 hz4
      have hg4 := hgr.keep hf4 id
      have hb4 := hbr.keep hf4 id
      have hfr4 := hf.same hf4
      have hgc := hgr.lt
      have hbc := hbr.lt
      have hwc := hf.size
      generalize wr.heap.size = gc at *
      clear hgr hbr hf hf4 hz4
      go_wp2_with fail
      go_loopw [19] (fun i wr => ∃ k : Nat, k ≤ 25 ∧ i = .int .i64 k ∧ Has wr gc (ws (colP s k)) 91 ∧ Has wr g (ws s ++ tail) T ∧ Has wr bt (is (turnsK 24)) 89 ∧ Fr (One g) w wr) (fun i _ => (25 - intOf i).toNat)
      case atStart => exact ⟨0, by omega, rfl, hc4, hg4, hb4, hfr4⟩
      case round =>
        obtain ⟨k, hk, rfl, hck, hgk, hbk, hf⟩ := hrel
        clear hc4 hg4 hb4 hfr4
        by_cases hlt2 : k < 25
        · have hs : wr.cell? ⟨g, k, none⟩ = some (.int .u64 ((s.getD k 0).toNat : Int)) := hgk.cell (by rw [List.getElem?_append_left (by rw [length_ws, hpl]; exact hlt2)]; exact ws_get _ _ (by rw [hpl]; exact hlt2))
          have hc : wr.cell? ⟨gc, k % 5, none⟩ = some (.int .u64 (((colP s k).getD (k % 5) 0).toNat : Int)) := hck.cell (ws_get _ _ (by rw [colP_len]; omega))
          have hfc : wr.frozen? ⟨gc, k % 5, none⟩ = false := hck.free _ (by rw [length_ws, colP_len]; omega)
          have hlo : (0 : Int) ≤ (k : Int) ∧ (k : Int) < 25 ∧ (0 : Int) ≤ (k : Int) % 5 ∧ (k : Int) % 5 < 5 := by omega
          generalize hx : s.getD k 0 = x at hs
          generalize hy : (colP s k).getD (k % 5) 0 = y at hc
          have HX := Lib.hid hx; clear hx
          have HY := Lib.hid hy; clear hy
          have HS := Lib.hid hpl; clear hpl
          have HS2 := Lib.hid hS; clear hS
          go_wp2
          go_region
          all_goals go_wp2
          go_roundw
          case rel =>
            have e : colP s (k + 1) = (colP s k).set (k % 5) (wx y x) := by rw [colP_succ, colStep, HX.out, HY.out]; rfl
            refine ⟨k + 1, by omega, by go_num, ?_, (hgk.other _ _ _ (by omega)).drew, (hbk.other _ _ _ (by omega)).drew, (hf.setCell _ _ _ _ (fun h => by omega)).drew⟩
            rw [e, ← ws_set]
            exact (hck.set _ _).drew
          case measure => simp [intOf]; omega
        · have hk25 : k = 25 := by omega
          subst hk25
          go_wp2_with (with_reducible refine wl_stop (o := ⟨_, .alloc 77, _, _, _, _⟩) ?_)
          refine wl_alloc rfl rfl zero_state (ws (List.replicate 25 0)) (by simp [Value.cells]) ?_
          intro w5 hm5 hf5 hz5
          have hc5 := hck.keep hf5 id
          have hg5 := hgk.keep hf5 id
          have hb5 := hbk.keep hf5 id
          have hfr5 := hf.same hf5
          have hcm := hck.lt
          have hgm := hgk.lt
          have hbm := hbk.lt
          have hwm := hf.size
          generalize wr.heap.size = gm at *
          generalize hcol : colP s 25 = col at *
          clear hck hgk hbk hf hf5 hz5
          have hcl : col.length = 5 := by rw [← hcol, colP_len]
          have HC := Lib.hid hcol; clear hcol
          have HCL := Lib.hid hcl; clear hcl
          go_wp2_with fail
          go_loopw [34] (fun i wr => ∃ k : Nat, k ≤ 25 ∧ i = .int .i64 k ∧ Has wr gm (ws (movP s col (turnsK 24) k)) 77 ∧ Has wr gc (ws col) 91 ∧ Has wr g (ws s ++ tail) T ∧ Has wr bt (is (turnsK 24)) 89 ∧ Fr (One g) w wr) (fun i _ => (25 - intOf i).toNat)
          case atStart => exact ⟨0, by omega, rfl, hm5, hc5, hg5, hb5, hfr5⟩
          case round =>
            obtain ⟨k, hk, rfl, hmk, hck, hgk, hbk, hf⟩ := hrel
            clear hm5 hc5 hg5 hb5 hfr5
            by_cases hlt3 : k < 25
            · have hs : wr.cell? ⟨g, k, none⟩ = some (.int .u64 ((s.getD k 0).toNat : Int)) := hgk.cell (by rw [List.getElem?_append_left (by rw [length_ws, hpl]; exact hlt3)]; exact ws_get _ _ (by rw [hpl]; exact hlt3))
              have hc4 : wr.cell? ⟨gc, (k + 4) % 5, none⟩ = some (.int .u64 ((col.getD ((k + 4) % 5) 0).toNat : Int)) := hck.cell (ws_get _ _ (by rw [HCL.out]; omega))
              have hc1 : wr.cell? ⟨gc, (k + 1) % 5, none⟩ = some (.int .u64 ((col.getD ((k + 1) % 5) 0).toNat : Int)) := hck.cell (ws_get _ _ (by rw [HCL.out]; omega))
              have hby : wr.cell? ⟨bt, k, none⟩ = some (.int .i64 (((turnsK 24).getD k 0 : Nat) : Int)) := hbk.cell (is_get _ _ (by rw [turnsK_len]; exact hlt3))
              have hbl : (turnsK 24).getD k 0 < 64 := turns_lt k
              have hgt : goesTo k < 25 := goesTo_lt k hlt3
              obtain ⟨v0, hcm0, hfm0⟩ := hmk.ready (i := goesTo k) (by rw [length_ws, movP_len]; exact hgt)
              have hlo : (0 : Int) ≤ (k : Int) ∧ (k : Int) < 25 ∧ (0 : Int) ≤ ((k : Int) + 4) % 5 ∧ ((k : Int) + 4) % 5 < 5 ∧ (0 : Int) ≤ ((k : Int) + 1) % 5 ∧ ((k : Int) + 1) % 5 < 5 := by omega
              generalize hx : s.getD k 0 = x at hs
              generalize hy4 : col.getD ((k + 4) % 5) 0 = y4 at hc4
              generalize hy1 : col.getD ((k + 1) % 5) 0 = y1 at hc1
              generalize hn : (turnsK 24).getD k 0 = n at hby hbl
              have HX := Lib.hid hx; clear hx
              have HY4 := Lib.hid hy4; clear hy4
              have HY1 := Lib.hid hy1; clear hy1
              have HN := Lib.hid hn; clear hn
              have HS := Lib.hid hpl; clear hpl
              have HS2 := Lib.hid hS; clear hS
              go_wp2
              go_region
              all_goals go_wp2
              have e1 : IntKind.i64.wrap ((k : Int) + 4) = (k : Int) + 4 := IntWalk.i64_in _ (by omega)
              have e2 : ((k : Int) + 4).tmod 5 = ((k : Int) + 4) % 5 := Int.tmod_eq_emod_of_nonneg (by omega)
              have e3 : (((k : Int) + 4) % 5).toNat = (k + 4) % 5 := by omega
              have e4 : IntKind.i64.wrap ((k : Int) + 1) = (k : Int) + 1 := IntWalk.i64_in _ (by omega)
              have e5 : ((k : Int) + 1).tmod 5 = ((k : Int) + 1) % 5 := Int.tmod_eq_emod_of_nonneg (by omega)
              have e6 : (((k : Int) + 1) % 5).toNat = (k + 1) % 5 := by omega
              go_quiet ((go_at_call 55; exact quiet_more (rot1_any _ _)))
              clear e1 e2 e3 e4 e5 e6
              go_wp2_with fail
              have HG := Lib.hid hgt; clear hgt
              have hgi : (0 : Int) ≤ (goesTo k : Int) ∧ (goesTo k : Int) < 25 := by have := HG.out; omega
              have hmz := hmk.drew.drewN nq
              have hcz := hck.drew.drewN nq
              have hgz := hgk.drew.drewN nq
              have hbz := hbk.drew.drewN nq
              have hfz := hf.drew.drewN nq
              have hbyz : (wr.drew.drewN nq).cell? ⟨bt, k, none⟩ = some (.int .i64 (n : Int)) := hby
              have hmcz : (wr.drew.drewN nq).cell? ⟨gm, goesTo k, none⟩ = some v0 := hcm0
              have hmfz : (wr.drew.drewN nq).frozen? ⟨gm, goesTo k, none⟩ = false := hfm0
              clear hmk hck hgk hbk hf hby hcm0 hfm0 hs hc4 hc1
              generalize wr.drew.drewN nq = wz at *
              clear wr
              refine wp_region_still_tail 8 (by kernel_rfl) (by kernel_rfl) ?_
              simp only [List.take_succ_cons, List.take_zero, List.drop_succ_cons, List.drop_zero]
              repeat still_step
              still_call (goesTo_same k _ hk)
              repeat still_step
              still_call (rot_same _ n hbl _)
              repeat still_step
              refine wpStill_nil ?_
              go_wp2
              go_roundw
              case rel =>
                have e : movP s col (turnsK 24) (k + 1) = (movP s col (turnsK 24) k).set (goesTo k) (rotl (wx x (wx y4 (rotl y1 1))) n) := by
                  rw [movP_succ, movStep, HX.out, HY4.out, HY1.out, HN.out]; rfl
                refine ⟨k + 1, by omega, by go_num, ?_, (hcz.other _ _ _ (by omega)).drew, (hgz.other _ _ _ (by omega)).drew, (hbz.other _ _ _ (by omega)).drew, (hfz.setCell _ _ _ _ (fun h => by omega)).drew⟩
                rw [e, ← ws_set]
                exact (hmz.set _ _).drew
              case measure => simp [intOf]; omega
            · obtain rfl : k = 25 := by omega
              have hml := movP_len s col (turnsK 24) 25
              have hmw : movP s col (turnsK 24) 25 = movP s (colP s 25) (turnsK 24) 25 := by rw [HC.out]
              generalize hmv : movP s col (turnsK 24) 25 = mv at *
              have HM := Lib.hid hmw; clear hmw hmv
              have HML := Lib.hid hml; clear hml
              have HPL := Lib.hid hpl; clear hpl
              have HS2 := Lib.hid hS; clear hS
              clear hck
              go_wp2_with fail
              go_loopw [10] (fun i wr => ∃ j : Nat, j ≤ 5 ∧ i = .int .i64 ((5 * j : Nat) : Int) ∧ Has wr gm (ws mv) 77 ∧ Has wr g (ws (chiP mv s j) ++ tail) T ∧ Has wr bt (is (turnsK 24)) 89 ∧ Fr (One g) w wr) (fun i _ => (25 - intOf i).toNat)
              case atStart => exact ⟨0, by omega, rfl, hmk, by rw [chiP_zero]; exact hgk, hbk, hf⟩
              case round =>
                obtain ⟨j, hj, rfl, hmj, hgj, hbj, hfj⟩ := hrel
                clear hmk hgk hbk hf
                by_cases hlt4 : j < 5
                · have hlo : (0 : Int) ≤ 5 * (j : Int) ∧ 5 * (j : Int) < 25 ∧ 5 * (j : Int) ≤ 20 := by omega
                  obtain ⟨wo, rfl⟩ : ∃ wo : World, wo = wr := ⟨_, rfl⟩
                  go_wp2_with (with_reducible refine wl_stop (o := ⟨some 72, _, _, _, _, _⟩) ?_)
                  refine wl_cutA rfl rfl Tryd.underlying77 size_u64 rfl rfl rfl rfl (5 * j) (5 * j + 5) (5 * j + 5) (by simp) (by simp) (by simp) (by omega) (by omega) (by omega) (by omega) ?_
                  have e5 : 5 * j + 5 - 5 * j = 5 := by omega
                  rw [e5]
                  clear e5
                  go_wp2_with fail
                  go_loopw [75] (fun i wr => ∃ x : Nat, x ≤ 5 ∧ i = .int .i64 x ∧ Has wr gm (ws mv) 77 ∧ Has wr g (ws (chiRow mv (chiP mv s j) (5 * j) x) ++ tail) T ∧ Has wr bt (is (turnsK 24)) 89 ∧ Fr (One g) w wr) (fun i _ => (5 - intOf i).toNat)
                  case atStart => exact ⟨0, by omega, rfl, hmj, by rw [chiRow_zero]; exact hgj, hbj, hfj⟩
                  case round =>
                    obtain ⟨x, hx, rfl, hmx, hgx, hbx, hfx⟩ := hrel
                    clear hmj hgj hbj hfj
                    by_cases hlt5 : x < 5
                    · have hml : mv.length = 25 := HML.out
                      have hsl : (chiRow mv (chiP mv s j) (5 * j) x).length = 25 := by rw [chiRow_len, chiP_len]; exact HPL.out
                      have hx0 : wr.cell? ⟨gm, 5 * j + x, none⟩ = some (.int .u64 ((mv.getD (5 * j + x) 0).toNat : Int)) := hmx.cell (ws_get _ _ (by omega))
                      have hx1 : wr.cell? ⟨gm, 5 * j + (x + 1) % 5, none⟩ = some (.int .u64 ((mv.getD (5 * j + (x + 1) % 5) 0).toNat : Int)) := hmx.cell (ws_get _ _ (by omega))
                      have hx2 : wr.cell? ⟨gm, 5 * j + (x + 2) % 5, none⟩ = some (.int .u64 ((mv.getD (5 * j + (x + 2) % 5) 0).toNat : Int)) := hmx.cell (ws_get _ _ (by omega))
                      obtain ⟨v0, hc0, hf0⟩ := hgx.ready (i := 5 * j + x) (by rw [List.length_append, length_ws, hsl]; omega)
                      have hlo5 : (0 : Int) ≤ (x : Int) ∧ (x : Int) < 5 ∧ (0 : Int) ≤ ((x : Int) + 1) % 5 ∧ ((x : Int) + 1) % 5 < 5 ∧ (0 : Int) ≤ ((x : Int) + 2) % 5 ∧ ((x : Int) + 2) % 5 < 5 := by omega
                      have hlo6 : (0 : Int) ≤ 5 * (j : Int) + (x : Int) ∧ 5 * (j : Int) + (x : Int) < 25 := by omega
                      generalize hy0 : mv.getD (5 * j + x) 0 = y0 at hx0
                      generalize hy1 : mv.getD (5 * j + (x + 1) % 5) 0 = y1 at hx1
                      generalize hy2 : mv.getD (5 * j + (x + 2) % 5) 0 = y2 at hx2
                      have HY0 := Lib.hid hy0; clear hy0
                      have HY1 := Lib.hid hy1; clear hy1
                      have HY2 := Lib.hid hy2; clear hy2
                      have HSL := Lib.hid hsl; clear hsl hml
                      go_wp2_with fail
                      have e1 : IntKind.i64.wrap ((x : Int) + 1) = (x : Int) + 1 := IntWalk.i64_in _ (by omega)
                      have e2 : ((x : Int) + 1).tmod 5 = ((x : Int) + 1) % 5 := Int.tmod_eq_emod_of_nonneg (by omega)
                      have e3 : (((x : Int) + 1) % 5).toNat = (x + 1) % 5 := by omega
                      have e4 : IntKind.i64.wrap ((x : Int) + 2) = (x : Int) + 2 := IntWalk.i64_in _ (by omega)
                      have e5 : ((x : Int) + 2).tmod 5 = ((x : Int) + 2) % 5 := Int.tmod_eq_emod_of_nonneg (by omega)
                      have e6 : (((x : Int) + 2) % 5).toNat = (x + 2) % 5 := by omega
                      have e7 : IntKind.i64.wrap (5 * (j : Int) + (x : Int)) = 5 * (j : Int) + (x : Int) := IntWalk.i64_in _ (by omega)
                      have e8 : (5 * (j : Int) + (x : Int)).toNat = 5 * j + x := by omega
                      refine wp_region_still_tail 22 (by kernel_rfl) (by kernel_rfl) ?_
                      simp only [List.take_succ_cons, List.take_zero, List.drop_succ_cons, List.drop_zero]
                      repeat still_step
                      refine wpStill_nil ?_
                      go_wp2
                      go_roundw
                      case rel =>
                        have e : chiRow mv (chiP mv s j) (5 * j) (x + 1) = (chiRow mv (chiP mv s j) (5 * j) x).set (5 * j + x) (wx y0 (wa (wn y1) y2)) := by
                          rw [chiRow_succ, chiStep, HY0.out, HY1.out, HY2.out]; rfl
                        refine ⟨x + 1, by omega, by go_num, (hmx.other _ _ _ (by omega)).drew, ?_, (hbx.other _ _ _ (by omega)).drew, (hfx.setCell _ _ _ _ (fun _ => rfl)).drew⟩
                        rw [e, ← ws_set, ← List.set_append_left _ _ (by rw [length_ws, HSL.out]; omega)]
                        exact (hgx.set _ _).drew
                      case measure => simp [intOf]; omega
                    · have hge : ¬ ((x : Int) < 5) := by omega
                      have hx5 : x = 5 := by omega
                      have HX5 := Lib.hid hx5; clear hx5
                      go_wp2_with fail
                      go_roundw
                      case rel => exact ⟨j + 1, by omega, by omega, by rw [chiP_succ]; rw [HX5.out] at hgx; exact hgx⟩
                      case measure => simp [intOf]; omega
                · have hge : ¬ (5 * (j : Int) < 25) := by omega
                  have hj5 : j = 5 := by omega
                  have HJ5 := Lib.hid hj5; clear hj5
                  have hsl : (chiP mv s j).length = 25 := by rw [chiP_len]; exact HPL.out
                  have hc0 : wr.cell? ⟨g, 0, none⟩ = some (.int .u64 (((chiP mv s j).getD 0 0).toNat : Int)) := hgj.cell (by rw [List.getElem?_append_left (by rw [length_ws, hsl]; omega)]; exact ws_get _ _ (by rw [hsl]; omega))
                  have hf0 : wr.frozen? ⟨g, 0, none⟩ = false := hgj.free _ (by rw [List.length_append, length_ws, hsl]; omega)
                  generalize hy : (chiP mv s j).getD 0 0 = y at hc0
                  have HY := Lib.hid hy; clear hy
                  have HSL := Lib.hid hsl; clear hsl
                  go_wp2_with fail
                  refine wp_region_still_tail 9 (by kernel_rfl) (by kernel_rfl) ?_
                  simp only [List.take_succ_cons, List.take_zero, List.drop_succ_cons, List.drop_zero]
                  repeat still_step
                  still_call (constP_same r hlt _)
                  repeat still_step
                  refine wpStill_nil ?_
                  go_wp2
                  go_roundw
                  case rel =>
                    have e : permP (turnsK 24) (fun r => rcP r 8) S (r + 1) = (chiP mv s j).set 0 (wx y (rcP r 8)) := by
                      rw [permP_succ, HR.out, roundP, ← HM.out, ← HJ5.out, HY.out]; rfl
                    refine ⟨r + 1, by omega, by go_num, ?_, (hbj.other _ _ _ (by omega)).drew, (hfj.setCell _ _ _ _ (fun _ => rfl)).drew⟩
                    rw [e, ← ws_set, ← List.set_append_left _ _ (by rw [length_ws, HSL.out]; omega)]
                    exact (hgj.set _ _).drew
                  case measure => simp [intOf]; omega
    · obtain rfl : r = 24 := by omega
      go_wp2_with fail
      go_end0
      exact ⟨rfl, hgr, hf⟩
end Go.Proofs.YtgkakddldobpkaaDoor

/- the reference's round -/
namespace Go.Proofs.YtgkakddldobpkaaDoor
open Go.RowKit Go.Mv Mvp

theorem colR_succ (s : List UInt64) (k : Nat) : colR s (k + 1) = colRrow s (colR s k) k 5 := by simp [colR, List.range_succ]
theorem colRrow_zero (s c : List UInt64) (x : Nat) : colRrow s c x 0 = c := by simp [colRrow]
theorem colRrow_succ (s c : List UInt64) (x k : Nat) : colRrow s c x (k + 1) = colRstep s x (colRrow s c x k) k := by simp [colRrow, List.range_succ]
theorem colRrow_len (s c : List UInt64) (x k : Nat) : (colRrow s c x k).length = c.length := by
  induction k with
  | zero => simp [colRrow]
  | succ k ih => rw [colRrow_succ]; simp [colRstep, ih]
theorem colR_len (s : List UInt64) (k : Nat) : (colR s k).length = 5 := by
  induction k with
  | zero => simp [colR]
  | succ k ih => rw [colR_succ, colRrow_len, ih]
theorem colR_zero (s : List UInt64) : colR s 0 = List.replicate 5 0 := by simp [colR]
theorem movR_succ (s : List UInt64) (t : List Nat) (c : List UInt64) (k : Nat) : movR s t c (k + 1) = movRrow s t (movR s t c k) k (dR c k) 5 := by simp [movR, List.range_succ]
theorem movRrow_zero (s : List UInt64) (t : List Nat) (m : List UInt64) (x : Nat) (d : UInt64) : movRrow s t m x d 0 = m := by simp [movRrow]
theorem movRrow_succ (s : List UInt64) (t : List Nat) (m : List UInt64) (x : Nat) (d : UInt64) (k : Nat) : movRrow s t m x d (k + 1) = movRstep s t x d (movRrow s t m x d k) k := by simp [movRrow, List.range_succ]
theorem movRrow_len (s : List UInt64) (t : List Nat) (m : List UInt64) (x : Nat) (d : UInt64) (k : Nat) : (movRrow s t m x d k).length = m.length := by
  induction k with
  | zero => simp [movRrow]
  | succ k ih => rw [movRrow_succ]; simp [movRstep, ih]
theorem movR_len (s : List UInt64) (t : List Nat) (c : List UInt64) (k : Nat) : (movR s t c k).length = 25 := by
  induction k with
  | zero => simp [movR]
  | succ k ih => rw [movR_succ, movRrow_len, ih]
theorem chiR_succ (m : List UInt64) (k : Nat) : chiR m (k + 1) = chiRrow m (chiR m k) k 5 := by simp [chiR, List.range_succ]
theorem chiRrow_zero (m o : List UInt64) (x : Nat) : chiRrow m o x 0 = o := by simp [chiRrow]
theorem chiRrow_succ (m o : List UInt64) (x k : Nat) : chiRrow m o x (k + 1) = chiRstep m x (chiRrow m o x k) k := by simp [chiRrow, List.range_succ]
theorem chiRrow_len (m o : List UInt64) (x k : Nat) : (chiRrow m o x k).length = o.length := by
  induction k with
  | zero => simp [chiRrow]
  | succ k ih => rw [chiRrow_succ]; simp [chiRstep, ih]
theorem chiR_len (m : List UInt64) (k : Nat) : (chiR m k).length = 25 := by
  induction k with
  | zero => simp [chiR]
  | succ k ih => rw [chiR_succ, chiRrow_len, ih]
theorem place_lt (x y : Nat) : place x y < 25 := by unfold place; omega
theorem info_u64 : (Tryd.prog.info? 40).map (fun i => (i.zero, i.size, i.bytes)) = some (some (.int .u64 0), 1, 8) := by kernel_rfl
theorem place_same (x y : Nat) (w : World) (hx : x ≤ 200) (hy : y ≤ 200) : Calls Tryd.prog 58 #[.int .i64 (x : Int), .int .i64 (y : Int)] w fun e w' => e = .returned (.int .i64 ((place x y : Nat) : Int)) ∧ w' = w :=
  (place_any x y w (by omega) (by omega) (by omega) (by omega)).mono (fun _ _ h => ⟨h.1, h.2.symm⟩)

theorem place_diag (x y : Nat) (w : World) (hx : x ≤ 100) (hy : y ≤ 100) : Calls Tryd.prog 58 #[.int .i64 (y : Int), .int .i64 (2 * (x : Int) + 3 * (y : Int))] w fun e w' => e = .returned (.int .i64 ((place y (2 * x + 3 * y) : Nat) : Int)) ∧ w' = w := by
  refine (place_any (y : Int) (2 * (x : Int) + 3 * (y : Int)) w (by omega) (by omega) (by omega) (by omega)).mono (fun e w' h => ⟨h.1.trans ?_, h.2.symm⟩)
  have e1 : (2 * (x : Int) + 3 * (y : Int)).toNat = 2 * x + 3 * y := by omega
  rw [e1, Int.toNat_natCast]
theorem place_1 (x y : Nat) (w : World) (hx : x ≤ 100) (hy : y ≤ 100) : Calls Tryd.prog 58 #[.int .i64 ((x : Int) + 1), .int .i64 (y : Int)] w fun e w' => e = .returned (.int .i64 ((place (x + 1) y : Nat) : Int)) ∧ w' = w := place_same (x + 1) y w (by omega) (by omega)
theorem place_2 (x y : Nat) (w : World) (hx : x ≤ 100) (hy : y ≤ 100) : Calls Tryd.prog 58 #[.int .i64 ((x : Int) + 2), .int .i64 (y : Int)] w fun e w' => e = .returned (.int .i64 ((place (x + 2) y : Nat) : Int)) ∧ w' = w := place_same (x + 2) y w (by omega) (by omega)
theorem left1_any (x : UInt64) (w : World) : Calls Tryd.prog 59 #[.int .u64 (x.toNat : Int), .int .i64 1] w fun e w' => e = .returned (.int .u64 ((rotl x 1).toNat : Int)) ∧ ∃ n, w' = w.drewN n := left_any x 1 (by omega) w

set_option maxHeartbeats 4000000 in
set_option maxRecDepth 1000000 in
/-- the first loops: the columns -/
theorem round_any (aa ta : Option Addr) (na ca ct : Nat) (S : List UInt64) (c : UInt64) (w : World) (hna : na = 25) (ha : Rd w aa na (ws S)) (ht : Rd w ta 25 (is (turnsK 24))) :
    Calls Tryd.prog 52 #[.slice aa na ca, .slice ta 25 ct, .int .u64 (c.toNat : Int)] w fun e w' => ∃ g, e = .returned (.slice (some ⟨g, 0, none⟩) 25 25) ∧ w.heap.size ≤ g ∧ Has w' g (ws (roundR (turnsK 24) S c)) 40 ∧ Fr Nob w w' := by
  subst hna
  have hS : S.length = 25 := by have := ha.len; rwa [length_ws] at this
  go_enter Tryd.func52, Tryd.ntmps52
  go_wp2_with (at_make; refine wl_make rfl rfl Tryd.underlying41 info_u64 rfl rfl rfl 5 5 (by simp) (by simp) (by omega) (by omega) (by unfold maxLen; omega) ?_; intro w1 hw1 hf1 hz1)
  have hc1 : Has w1 w.heap.size (ws (colR S 0)) 40 := by rw [colR_zero]; exact hw1
  generalize hgc : w.heap.size = gc at *
  clear hw1
  go_loopw [8] (fun i wr => ∃ x : Nat, x ≤ 5 ∧ i = .int .i64 x ∧ Has wr gc (ws (colR S x)) 40 ∧ Fr Nob w wr) (fun i _ => (5 - intOf i).toNat)
  case atStart => exact ⟨0, by omega, rfl, hc1, hf1⟩
  case round =>
    obtain ⟨x, hx, rfl, hcx, hfx⟩ := hrel
    clear hc1 hf1
    by_cases hlt : x < 5
    · have hltI : (x : Int) < 5 := by omega
      obtain ⟨wo, rfl⟩ : ∃ wo : World, wo = wr := ⟨_, rfl⟩
      go_wp2_with fail
      go_loopw [9] (fun i wr => ∃ y : Nat, y ≤ 5 ∧ i = .int .i64 y ∧ Has wr gc (ws (colRrow S (colR S x) x y)) 40 ∧ Fr Nob w wr) (fun i _ => (5 - intOf i).toNat)
      case atStart => exact ⟨0, by omega, rfl, by rw [colRrow_zero]; exact hcx, hfx⟩
      case round =>
        obtain ⟨y, hy, rfl, hcy, hfy⟩ := hrel
        clear hcx hfx
        by_cases hlt2 : y < 5
        · have hlt2I : (y : Int) < 5 := by omega
          obtain ⟨b, o, rfl, hat⟩ := (ha.still hfy).at (by omega)
          have hs : wr.cell? ⟨b, o + place x y, none⟩ = some (.int .u64 ((S.getD (place x y) 0).toNat : Int)) := hat _ _ (ws_get _ _ (by rw [hS]; exact place_lt x y))
          have hsl : (colRrow S (colR S x) x y).length = 5 := by rw [colRrow_len, colR_len]
          have hc : wr.cell? ⟨gc, x, none⟩ = some (.int .u64 (((colRrow S (colR S x) x y).getD x 0).toNat : Int)) := hcy.cell (ws_get _ _ (by rw [hsl]; exact hlt))
          have hf : wr.frozen? ⟨gc, x, none⟩ = false := hcy.free _ (by rw [length_ws, hsl]; exact hlt)
          have hpl : (0 : Int) ≤ (place x y : Int) ∧ (place x y : Int) < 25 := by have := place_lt x y; omega
          generalize hu : S.getD (place x y) 0 = u at hs
          generalize hv : (colRrow S (colR S x) x y).getD x 0 = v at hc
          have HU := Lib.hid hu; clear hu
          have HV := Lib.hid hv; clear hv
          have HSL := Lib.hid hsl; clear hsl
          have HS := Lib.hid hS; clear hS
          clear hat
          have HGC := Lib.hid hgc; clear hgc
          go_wp2_with fail
          refine wp_region_still_tail 14 (by kernel_rfl) (by kernel_rfl) ?_
          simp only [List.take_succ_cons, List.take_zero, List.drop_succ_cons, List.drop_zero]
          repeat still_step
          still_call (place_same x y _ (by omega) (by omega))
          repeat still_step
          refine wpStill_nil ?_
          go_wp2
          go_roundw
          case rel =>
            have e : colRrow S (colR S x) x (y + 1) = (colRrow S (colR S x) x y).set x (wx v u) := by rw [colRrow_succ, colRstep, HU.out, HV.out]; rfl
            refine ⟨y + 1, by omega, by go_num, ?_, (hfy.setCell _ _ _ _ (fun h => by have := HGC.out; omega)).drew⟩
            rw [e, ← ws_set]
            exact (hcy.set _ _).drew
          case measure => simp [intOf]; omega
        · have hge : ¬ ((y : Int) < 5) := by omega
          have hy5 : y = 5 := by omega
          have HY := Lib.hid hy5; clear hy5
          go_wp2_with fail
          go_roundw
          case rel =>
            rw [HY.out, ← colR_succ] at hcy
            first
              | exact ⟨x + 1, by omega, by go_num, hcy, hfy⟩
              | exact ⟨x + 1, by omega, by omega, hcy⟩
          case measure => simp [intOf]; omega
    · have hge : ¬ ((x : Int) < 5) := by omega
      have hx5 : x = 5 := by omega
      have hcl : (colR S x).length = 5 := colR_len S x
      have hcol : colR S x = colR S 5 := by rw [hx5]
      generalize colR S x = col at *
      have HCOL := Lib.hid hcol; clear hcol hx5
      go_wp2_with (at_make; refine wl_make rfl rfl Tryd.underlying41 info_u64 rfl rfl rfl 25 25 (by simp) (by simp) (by omega) (by omega) (by unfold maxLen; omega) ?_; intro w2 hw2 hf2 hz2)
      have hm2 : Has w2 wr.heap.size (ws (movR S (turnsK 24) col 0)) 40 := by simpa [movR, ws] using hw2
      have hgm : gc < wr.heap.size := hcx.lt
      have hc2 := hcx.keep hf2 id
      have hfr2 := hfx.same hf2
      have hwm : gc ≤ wr.heap.size := by have := hfx.size; omega
      generalize wr.heap.size = gm at *
      clear hw2 hf2 hz2 hcx hfx
      go_wp2_with fail
      go_loopw [11] (fun i wr => ∃ x : Nat, x ≤ 5 ∧ i = .int .i64 x ∧ Has wr gc (ws col) 40 ∧ Has wr gm (ws (movR S (turnsK 24) col x)) 40 ∧ Fr Nob w wr) (fun i _ => (5 - intOf i).toNat)
      case atStart => exact ⟨0, by omega, rfl, hc2, hm2, hfr2⟩
      case round =>
        obtain ⟨x, hx, rfl, hcx, hmx, hfx⟩ := hrel
        clear hc2 hm2 hfr2
        by_cases hlt3 : x < 5
        · have hlt3I : (x : Int) < 5 := by omega
          obtain ⟨wo, rfl⟩ : ∃ wo : World, wo = wr := ⟨_, rfl⟩
          have hc4 : wo.cell? ⟨gc, (x + 4) % 5, none⟩ = some (.int .u64 ((col.getD ((x + 4) % 5) 0).toNat : Int)) := hcx.cell (ws_get _ _ (by omega))
          have hc1 : wo.cell? ⟨gc, (x + 1) % 5, none⟩ = some (.int .u64 ((col.getD ((x + 1) % 5) 0).toNat : Int)) := hcx.cell (ws_get _ _ (by omega))
          generalize hu : col.getD ((x + 4) % 5) 0 = u at hc4
          generalize hv : col.getD ((x + 1) % 5) 0 = v at hc1
          have HU := Lib.hid hu; clear hu
          have HV := Lib.hid hv; clear hv
          have HCL := Lib.hid hcl; clear hcl
          have HS := Lib.hid hS; clear hS
          have HGC := Lib.hid hgc; clear hgc
          have hlo : (0 : Int) ≤ ((x : Int) + 4) % 5 ∧ ((x : Int) + 4) % 5 < 5 ∧ (0 : Int) ≤ ((x : Int) + 1) % 5 ∧ ((x : Int) + 1) % 5 < 5 := by omega
          go_wp2_with fail
          have e1 : IntKind.i64.wrap ((x : Int) + 4) = (x : Int) + 4 := IntWalk.i64_in _ (by omega)
          have e2 : ((x : Int) + 4).tmod 5 = ((x : Int) + 4) % 5 := Int.tmod_eq_emod_of_nonneg (by omega)
          have e3 : (((x : Int) + 4) % 5).toNat = (x + 4) % 5 := by omega
          have e4 : IntKind.i64.wrap ((x : Int) + 1) = (x : Int) + 1 := IntWalk.i64_in _ (by omega)
          have e5 : ((x : Int) + 1).tmod 5 = ((x : Int) + 1) % 5 := Int.tmod_eq_emod_of_nonneg (by omega)
          have e6 : (((x : Int) + 1) % 5).toNat = (x + 1) % 5 := by omega
          go_quiet ((go_at_call 59; exact Calls.quiet_of (left1_any _ _)))
          clear e1 e2 e3 e4 e5 e6
          go_wp2_with fail
          have hcz := hcx.drewN nq
          have hmz := hmx.drewN nq
          have hfz := hfx.drewN nq
          generalize wo.drewN nq = wz at *
          clear hcx hmx hfx hc4 hc1 wo
          have hmb := hmz.lt
          have hd : wx u (rotl v 1) = dR col x := by rw [dR, HU.out, HV.out]; rfl
          generalize wx u (rotl v 1) = d at *
          have HD := Lib.hid hd; clear hd
          go_loopw [13] (fun i wr => ∃ y : Nat, y ≤ 5 ∧ i = .int .i64 y ∧ Has wr gc (ws col) 40 ∧ Has wr gm (ws (movRrow S (turnsK 24) (movR S (turnsK 24) col x) x d y)) 40 ∧ Fr Nob w wr) (fun i _ => (5 - intOf i).toNat)
          case atStart => exact ⟨0, by omega, rfl, hcz, by rw [movRrow_zero]; exact hmz, hfz⟩
          case round =>
            obtain ⟨y, hy, rfl, hcy, hmy, hfy⟩ := hrel
            clear hcz hmz hfz
            by_cases hlt4 : y < 5
            · have hlt4I : (y : Int) < 5 := by omega
              obtain ⟨b, o, rfl, hat⟩ := (ha.still hfy).at (by omega)
              obtain ⟨tb, to, rfl, tat⟩ := (ht.still hfy).at (by omega)
              have hnb : b ≠ gm := by have := ha.lt (by omega); have := HGC.out; omega
              have hnt : tb ≠ gm := by have := ht.lt (by omega); have := HGC.out; omega
              have hs : wr.cell? ⟨b, o + place x y, none⟩ = some (.int .u64 ((S.getD (place x y) 0).toNat : Int)) := hat _ _ (ws_get _ _ (by rw [HS.out]; exact place_lt x y))
              have htu : wr.cell? ⟨tb, to + place x y, none⟩ = some (.int .i64 (((turnsK 24).getD (place x y) 0 : Nat) : Int)) := tat _ _ (is_get _ _ (by rw [turnsK_len]; exact place_lt x y))
              have htl : (turnsK 24).getD (place x y) 0 < 64 := turns_lt _
              have hpl := place_lt x y
              have hpl2 := place_lt y (2 * x + 3 * y)
              obtain ⟨v0, hc0, hf0⟩ := hmy.ready (i := place y (2 * x + 3 * y)) (by rw [length_ws, movRrow_len, movR_len]; exact hpl2)
              have hpi : (0 : Int) ≤ (place x y : Int) ∧ (place x y : Int) < 25 ∧ (0 : Int) ≤ (place y (2 * x + 3 * y) : Int) ∧ (place y (2 * x + 3 * y) : Int) < 25 := by omega
              generalize hsv : S.getD (place x y) 0 = sv at hs
              generalize htv : (turnsK 24).getD (place x y) 0 = tv at htu htl
              have HSV := Lib.hid hsv; clear hsv
              have HTV := Lib.hid htv; clear htv
              clear hat tat hpl hpl2
              go_wp2_with fail
              have e1 : IntKind.i64.wrap (2 * (x : Int)) = 2 * (x : Int) := IntWalk.i64_in _ (by omega)
              have e2 : IntKind.i64.wrap (3 * (y : Int)) = 3 * (y : Int) := IntWalk.i64_in _ (by omega)
              have e3 : IntKind.i64.wrap (2 * (x : Int) + 3 * (y : Int)) = 2 * (x : Int) + 3 * (y : Int) := IntWalk.i64_in _ (by omega)
              go_region_held3 (fun w' => w'.cell? ⟨b, o + place x y, none⟩ = some (.int .u64 (sv.toNat : Int)) ∧ w'.cell? ⟨tb, to + place x y, none⟩ = some (.int .i64 (tv : Int))) (first | go_keep | (refine ⟨?_, ?_⟩ <;> (rw [cell_other _ _ _ _ _ _ (by assumption)]; assumption)))
                (first | (go_at_call_of 58 (Value.int .i64 (x : Int)); refine (place_same x y _ (by omega) (by omega)).mono ?_; rintro e w' ⟨rfl, rfl⟩) | (go_at_call 59; refine (left_any _ _ htl _).mono ?_; rintro e w' ⟨rfl, nl, rfl⟩) | (go_at_call 58; refine (place_diag x y _ (by omega) (by omega)).mono ?_; rintro e w' ⟨rfl, rfl⟩))
              all_goals go_wp2
              go_roundw
              case rel =>
                have e : movRrow S (turnsK 24) (movR S (turnsK 24) col x) x d (y + 1) = (movRrow S (turnsK 24) (movR S (turnsK 24) col x) x d y).set (place y (2 * x + 3 * y)) (rotl (wx sv d) tv) := by
                  rw [movRrow_succ, movRstep, HSV.out, HTV.out]; rfl
                refine ⟨y + 1, by omega, by go_num, (hcy.drewN _).other _ _ _ (by omega), ?_, (hfy.drewN _).setCell _ _ _ _ (fun h => by have := HGC.out; omega)⟩
                rw [e, ← ws_set]
                exact (hmy.drewN _).set _ _
              case measure => simp [intOf]; omega
            · have hge : ¬ ((y : Int) < 5) := by omega
              have hy5 : y = 5 := by omega
              have HY := Lib.hid hy5; clear hy5
              go_wp2_with fail
              go_roundw
              case rel =>
                rw [HY.out, HD.out, ← movR_succ] at hmy
                first
                  | exact ⟨x + 1, by omega, by go_num, hcy, hmy, hfy⟩
                  | exact ⟨x + 1, by omega, by omega, hmy⟩
              case measure => simp [intOf]; omega
        · have hge : ¬ ((x : Int) < 5) := by omega
          have hx5 : x = 5 := by omega
          have hml : (movR S (turnsK 24) col x).length = 25 := movR_len _ _ _ _
          have hmv : movR S (turnsK 24) col x = movR S (turnsK 24) (colR S 5) 5 := by rw [hx5, HCOL.out]
          generalize movR S (turnsK 24) col x = mv at *
          have HMV := Lib.hid hmv; clear hmv hx5
          have HGC := Lib.hid hgc; clear hgc
          have HS := Lib.hid hS; clear hS
          have HCL := Lib.hid hcl; clear hcl
          have hgb : gc ≤ wr.heap.size := by have := hfx.size; have := HGC.out; omega
          go_wp2_with (at_make; refine wl_make rfl rfl Tryd.underlying41 info_u64 rfl rfl rfl 25 25 (by simp) (by simp) (by omega) (by omega) (by unfold maxLen; omega) ?_; intro w3 hw3 hf3 hz3)
          have ho3 : Has w3 wr.heap.size (ws (chiR mv 0)) 40 := by simpa [chiR, ws] using hw3
          have hgo : gm < wr.heap.size := hmx.lt
          have hm3 := hmx.keep hf3 id
          have hfr3 := hfx.same hf3
          generalize wr.heap.size = go at *
          clear hw3 hf3 hz3 hcx hmx hfx
          go_wp2_with fail
          go_loopw [15] (fun i wr => ∃ x : Nat, x ≤ 5 ∧ i = .int .i64 x ∧ Has wr gm (ws mv) 40 ∧ Has wr go (ws (chiR mv x)) 40 ∧ Fr Nob w wr) (fun i _ => (5 - intOf i).toNat)
          case atStart => exact ⟨0, by omega, rfl, hm3, ho3, hfr3⟩
          case round =>
            obtain ⟨x, hx, rfl, hmx, hox, hfx⟩ := hrel
            clear hm3 ho3 hfr3
            by_cases hlt5 : x < 5
            · have hlt5I : (x : Int) < 5 := by omega
              obtain ⟨wo, rfl⟩ : ∃ wo : World, wo = wr := ⟨_, rfl⟩
              go_wp2_with fail
              go_loopw [16] (fun i wr => ∃ y : Nat, y ≤ 5 ∧ i = .int .i64 y ∧ Has wr gm (ws mv) 40 ∧ Has wr go (ws (chiRrow mv (chiR mv x) x y)) 40 ∧ Fr Nob w wr) (fun i _ => (5 - intOf i).toNat)
              case atStart => exact ⟨0, by omega, rfl, hmx, by rw [chiRrow_zero]; exact hox, hfx⟩
              case round =>
                obtain ⟨y, hy, rfl, hmy, hoy, hfy⟩ := hrel
                clear hmx hox hfx
                by_cases hlt6 : y < 5
                · have hlt6I : (y : Int) < 5 := by omega
                  have hp0 := place_lt x y
                  have hp1 := place_lt (x + 1) y
                  have hp2 := place_lt (x + 2) y
                  have h0 : wr.cell? ⟨gm, place x y, none⟩ = some (.int .u64 ((mv.getD (place x y) 0).toNat : Int)) := hmy.cell (ws_get _ _ (by omega))
                  have h1 : wr.cell? ⟨gm, place (x + 1) y, none⟩ = some (.int .u64 ((mv.getD (place (x + 1) y) 0).toNat : Int)) := hmy.cell (ws_get _ _ (by omega))
                  have h2 : wr.cell? ⟨gm, place (x + 2) y, none⟩ = some (.int .u64 ((mv.getD (place (x + 2) y) 0).toNat : Int)) := hmy.cell (ws_get _ _ (by omega))
                  obtain ⟨v0, hc0, hf0⟩ := hoy.ready (i := place x y) (by rw [length_ws, chiRrow_len, chiR_len]; exact hp0)
                  have hpi : (0 : Int) ≤ (place x y : Int) ∧ (place x y : Int) < 25 ∧ (0 : Int) ≤ (place (x + 1) y : Int) ∧ (place (x + 1) y : Int) < 25 ∧ (0 : Int) ≤ (place (x + 2) y : Int) ∧ (place (x + 2) y : Int) < 25 := by omega
                  generalize hv0 : mv.getD (place x y) 0 = y0 at h0
                  generalize hv1 : mv.getD (place (x + 1) y) 0 = y1 at h1
                  generalize hv2 : mv.getD (place (x + 2) y) 0 = y2 at h2
                  have HV0 := Lib.hid hv0; clear hv0
                  have HV1 := Lib.hid hv1; clear hv1
                  have HV2 := Lib.hid hv2; clear hv2
                  have HML := Lib.hid hml; clear hml hp0 hp1 hp2
                  go_wp2_with fail
                  have e1 : IntKind.i64.wrap ((x : Int) + 1) = (x : Int) + 1 := IntWalk.i64_in _ (by omega)
                  have e2 : IntKind.i64.wrap ((x : Int) + 2) = (x : Int) + 2 := IntWalk.i64_in _ (by omega)
                  refine wp_region_still_tail 28 (by kernel_rfl) (by kernel_rfl) ?_
                  simp only [List.take_succ_cons, List.take_zero, List.drop_succ_cons, List.drop_zero]
                  repeat still_step
                  still_call (place_same x y _ (by omega) (by omega))
                  repeat still_step
                  still_call (place_same x y _ (by omega) (by omega))
                  repeat still_step
                  still_call (place_1 x y _ (by omega) (by omega))
                  repeat still_step
                  still_call (place_2 x y _ (by omega) (by omega))
                  repeat still_step
                  refine wpStill_nil ?_
                  go_wp2
                  go_roundw
                  case rel =>
                    have e : chiRrow mv (chiR mv x) x (y + 1) = (chiRrow mv (chiR mv x) x y).set (place x y) (wx y0 (wa (wn y1) y2)) := by
                      rw [chiRrow_succ, chiRstep, HV0.out, HV1.out, HV2.out]; rfl
                    refine ⟨y + 1, by omega, by go_num, (hmy.other _ _ _ (by omega)).drew, ?_, (hfy.setCell _ _ _ _ (fun h => by have := HGC.out; omega)).drew⟩
                    rw [e, ← ws_set]
                    exact (hoy.set _ _).drew
                  case measure => simp [intOf]; omega
                · have hge : ¬ ((y : Int) < 5) := by omega
                  have hy5 : y = 5 := by omega
                  have HY := Lib.hid hy5; clear hy5
                  go_wp2_with fail
                  go_roundw
                  case rel =>
                    rw [HY.out, ← chiR_succ] at hoy
                    first
                      | exact ⟨x + 1, by omega, by go_num, hmy, hoy, hfy⟩
                      | exact ⟨x + 1, by omega, by omega, hoy⟩
                  case measure => simp [intOf]; omega
            · have hge : ¬ ((x : Int) < 5) := by omega
              have hx5 : x = 5 := by omega
              have hol : (chiR mv x).length = 25 := chiR_len mv x
              have hcell : wr.cell? ⟨go, 0, none⟩ = some (.int .u64 (((chiR mv x).getD 0 0).toNat : Int)) := hox.cell (ws_get _ _ (by omega))
              have hfree : wr.frozen? ⟨go, 0, none⟩ = false := hox.free _ (by rw [length_ws]; omega)
              generalize hu : (chiR mv x).getD 0 0 = u at hcell
              have HU := Lib.hid hu; clear hu
              have HX5 := Lib.hid hx5; clear hx5
              have HOL := Lib.hid hol; clear hol
              have HML := Lib.hid hml; clear hml
              go_wp2_with fail
              try go_region
              all_goals go_wp2
              go_ret
              have e : roundR (turnsK 24) S c = (chiR mv x).set 0 (wx u c) := by
                rw [roundR, ← HMV.out, ← HX5.out, HU.out]; rfl
              refine ⟨go, rfl, by have := HGC.out; omega, ?_, hfx.setCell _ _ _ _ (fun h => by have := HGC.out; omega)⟩
              rw [e, ← ws_set]
              exact hox.set _ _
end Go.Proofs.YtgkakddldobpkaaDoor

/- Pure sponge: the permutation of bytes, both ways. -/
namespace Mvp

def zeros25 : List UInt64 := List.replicate 25 0
def permS (S : List UInt64) : List UInt64 := permP (turnsK 24) (fun r => rcP r 8) S 24
def permB (l : List UInt8) : List UInt8 := toB (permS (xorB zeros25 l 200)) 200
theorem permS_len (S : List UInt64) : (permS S).length = S.length := permP_len _ _ _ _
theorem permR_eq (S : List UInt64) (h : S.length = 25) : permR (turnsK 24) (fun r => rcR r 7) S 24 = permS S :=
  (perm_same (turnsK 24) (fun r => rcP r 8) (fun r => rcR r 7) S h 24 (fun r hr => rc_same r hr)).symm

/- the reference's way: by or -/
def orStep (s : List UInt64) (i : Nat) (x : UInt8) : List UInt64 := s.set (i / 8) (wo (s.getD (i / 8) 0) (shl (wid x) (8 * (i % 8))))
def orB (s : List UInt64) (b : List UInt8) (k : Nat) : List UInt64 := (List.range k).foldl (fun s i => orStep s i (b.getD i 0)) s
theorem orB_succ (s : List UInt64) (b : List UInt8) (k : Nat) : orB s b (k + 1) = orStep (orB s b k) k (b.getD k 0) := by simp [orB, List.range_succ]
theorem orB_len (s : List UInt64) (b : List UInt8) (k : Nat) : (orB s b k).length = s.length := by
  induction k with
  | zero => simp [orB]
  | succ k ih => rw [orB_succ]; simp [orStep, ih]

theorem or_xor (x y k : Nat) (h : x < 2 ^ k) : x ||| (y * 2 ^ k) = x ^^^ (y * 2 ^ k) := by
  apply Nat.eq_of_testBit_eq
  intro i
  rw [Nat.testBit_or, Nat.testBit_xor]
  rcases Nat.lt_or_ge i k with hi | hi
  · have : (y * 2 ^ k).testBit i = false := by rw [Nat.testBit_mul_two_pow]; simp; omega
    simp [this]
  · have : x.testBit i = false := Nat.testBit_lt_two_pow (Nat.lt_of_lt_of_le h (Nat.pow_le_pow_right (by omega) hi))
    simp [this]
theorem shl_wid (x : UInt8) (k : Nat) (hk : k ≤ 56) : (shl (wid x) k).toNat = x.toNat * 2 ^ k := by
  have hx := x.toNat_lt
  have h1 : x.toNat * 2 ^ k < 2 ^ 8 * 2 ^ 56 := by
    have h2 : 2 ^ k ≤ 2 ^ 56 := Nat.pow_le_pow_right (by omega) hk
    have h3 : 0 < 2 ^ k := Nat.two_pow_pos k
    calc x.toNat * 2 ^ k < 2 ^ 8 * 2 ^ k := Nat.mul_lt_mul_of_pos_right hx h3
      _ ≤ 2 ^ 8 * 2 ^ 56 := Nat.mul_le_mul_left _ h2
  simp only [shl, wid, UInt64.toNat_ofNat', UInt8.toNat_toUInt64]
  exact Nat.mod_eq_of_lt (by simpa using h1)
theorem wo_wx (a : UInt64) (x : UInt8) (k : Nat) (hk : k ≤ 56) (h : a.toNat < 2 ^ k) : wo a (shl (wid x) k) = wx a (shl (wid x) k) := by
  apply UInt64.toNat_inj.1
  simp only [wo, wx, UInt64.toNat_or, UInt64.toNat_xor]
  rw [shl_wid x k hk, or_xor _ _ _ h]
theorem wx_lt (a : UInt64) (x : UInt8) (k : Nat) (hk : k ≤ 56) (h : a.toNat < 2 ^ k) : (wx a (shl (wid x) k)).toNat < 2 ^ (k + 8) := by
  simp only [wx, UInt64.toNat_xor]
  rw [shl_wid x k hk]
  have hx := x.toNat_lt
  refine Nat.xor_lt_two_pow (Nat.lt_of_lt_of_le h (Nat.pow_le_pow_right (by omega) (by omega))) ?_
  rw [Nat.pow_add, Nat.mul_comm (2 ^ k)]
  exact Nat.mul_lt_mul_of_pos_right hx (Nat.two_pow_pos k)

/-- up to byte k each word has just the bits that have been laid -/
def low (s : List UInt64) (k : Nat) : Prop := ∀ j, j < 25 → (s.getD j 0).toNat < 2 ^ (8 * (k - 8 * j))
theorem getD_set (s : List UInt64) (i j : Nat) (v : UInt64) (hi : i < s.length) : (s.set i v).getD j 0 = if i = j then v else s.getD j 0 := by
  have _h := hi
  simp only [List.getD_eq_getElem?_getD, List.getElem?_set]
  split
  · rename_i h; subst h; simp
  · rfl
theorem or_same (b : List UInt8) (k : Nat) (hk : k ≤ 200) : orB zeros25 b k = xorB zeros25 b k ∧ (∀ j, j < 25 → ((xorB zeros25 b k).getD j 0).toNat < 2 ^ (8 * min (k - 8 * j) 8)) := by
  induction k with
  | zero =>
    refine ⟨by simp [orB, xorB], fun j hj => ?_⟩
    have hz : ∀ j, j < 25 → zeros25.getD j 0 = 0 := by decide
    have e : xorB zeros25 b 0 = zeros25 := by simp [xorB]
    rw [e, hz j hj]
    simp
  | succ k ih =>
    obtain ⟨h1, h2⟩ := ih (by omega)
    have hl : (xorB zeros25 b k).length = 25 := by rw [xorB_len]; simp [zeros25]
    have hk8 : k / 8 < 25 := by omega
    have h3 := h2 (k / 8) hk8
    have e3 : min (k - 8 * (k / 8)) 8 = k % 8 := by omega
    rw [e3] at h3
    refine ⟨?_, fun j hj => ?_⟩
    · rw [orB_succ, xorB_succ, h1, orStep, xorStep, wo_wx _ _ _ (by omega) h3]
    · rw [xorB_succ, xorStep, getD_set _ _ _ _ (by omega)]
      split
      · rename_i e
        subst e
        have := wx_lt ((xorB zeros25 b k).getD (k / 8) 0) (b.getD k 0) (8 * (k % 8)) (by omega) h3
        have e4 : 8 * min (k + 1 - 8 * (k / 8)) 8 = 8 * (k % 8) + 8 := by omega
        rw [e4]; exact this
      · rename_i e
        have e5 : min (k + 1 - 8 * j) 8 = min (k - 8 * j) 8 := by omega
        rw [e5]; exact h2 j hj
end Mvp

/- Permute, the program's and the reference's -/
namespace Go.Proofs.YtgkakddldobpkaaDoor
open Go.RowKit Go.Mv Mvp

theorem Fr.widen {g : Nat} {a b : World} (h : Fr (One g) a b) (hg : a.heap.size ≤ g) : Fr Nob a b := h.mono (fun i hi (t : i = g) => by omega)

end Go.Proofs.YtgkakddldobpkaaDoor

/- Permute of the reference -/
namespace Go.Proofs.YtgkakddldobpkaaDoor
open Go.RowKit Go.Mv Mvp

theorem roundR_len (t : List Nat) (s : List UInt64) (c : UInt64) : (roundR t s c).length = 25 := by simp [roundR, chiR_len]
theorem permR_len (t : List Nat) (rc : Nat → UInt64) (s : List UInt64) (k : Nat) (h : s.length = 25) : (permR t rc s k).length = 25 := by
  cases k with
  | zero => simpa [permR] using h
  | succ k => rw [permR_succ, roundR_len]

set_option maxHeartbeats 2000000 in
set_option maxRecDepth 1000000 in
theorem permuteR_any (s : ByteArray) (w : World) (hs : s.size = 200) :
    Calls Tryd.prog 46 #[.string s] w fun e w' => e = .returned (.string (mkS (permB s.data.toList))) ∧ Fr Nob w w' := by
  have hsb : s.size ≤ 200 := by omega
  have HSZ := Lib.hid hs; clear hs
  go_enter Tryd.func46, Tryd.ntmps46
  go_wp2_with (at_make; refine wl_make rfl rfl Tryd.underlying41 info_u64 rfl rfl rfl 25 25 (by simp) (by simp) (by omega) (by omega) (by unfold maxLen; omega) ?_; intro w1 hw1 hf1 hz1)
  have ha1 : Has w1 w.heap.size (ws (orB zeros25 s.data.toList 0)) 40 := by simpa [orB, zeros25, ws] using hw1
  generalize hga : w.heap.size = ga at *
  clear hw1
  have HGA := Lib.hid hga; clear hga
  go_loopw [4] (fun i wr => ∃ k : Nat, k ≤ 200 ∧ i = .int .i64 k ∧ Has wr ga (ws (orB zeros25 s.data.toList k)) 40 ∧ Fr Nob w wr) (fun i _ => (200 - intOf i).toNat)
  case atStart => exact ⟨0, by omega, rfl, ha1, hf1⟩
  case round =>
    obtain ⟨k, hk, rfl, hak, hf⟩ := hrel
    clear ha1 hf1 hz1
    by_cases hlt : k < 200
    · have hltI : (k : Int) < 200 := by omega
      have hol : (orB zeros25 s.data.toList k).length = 25 := by rw [orB_len]; simp [zeros25]
      have hx : ∀ h1 : k < s.size, s[k]'h1 = s.data.toList.getD k 0 := by
        intro h1
        rw [List.getD_eq_getElem?_getD, List.getElem?_eq_getElem (by simpa using h1)]
        simp
        rfl
      have hc : wr.cell? ⟨ga, k / 8, none⟩ = some (.int .u64 (((orB zeros25 s.data.toList k).getD (k / 8) 0).toNat : Int)) := hak.cell (ws_get _ _ (by omega))
      have hfz : wr.frozen? ⟨ga, k / 8, none⟩ = false := hak.free _ (by rw [length_ws]; omega)
      have hlo : (0 : Int) ≤ (k : Int) / 8 ∧ (k : Int) / 8 < 25 := by omega
      generalize hy : (orB zeros25 s.data.toList k).getD (k / 8) 0 = y at hc
      generalize hxx : s.data.toList.getD k 0 = x at hx
      have HY := Lib.hid hy; clear hy
      have HX := Lib.hid hxx; clear hxx
      have HOL := Lib.hid hol; clear hol
      go_wp2_with fail
      have e1 : IntKind.i64.wrap ((k : Int) / 8) = (k : Int) / 8 := IntWalk.i64_in _ (by omega)
      have hks : (k : Int) < (s.size : Int) := by have := HSZ.out; omega
      have e2 : (k : Int).tmod 8 = (k : Int) % 8 := Int.tmod_eq_emod_of_nonneg (by omega)
      have e3 : IntKind.i64.wrap (8 * ((k : Int) % 8)) = 8 * ((k : Int) % 8) := IntWalk.i64_in _ (by omega)
      have e4 : ((k : Int) / 8).toNat = k / 8 := by omega
      refine wp_region_still_tail 18 (by kernel_rfl) (by kernel_rfl) ?_
      simp only [List.take_succ_cons, List.take_zero, List.drop_succ_cons, List.drop_zero]
      repeat still_step
      refine wpStill_nil ?_
      go_wp2
      go_roundw
      case rel =>
        have e : orB zeros25 s.data.toList (k + 1) = (orB zeros25 s.data.toList k).set (k / 8) (wo y (shl (wid x) (8 * (k % 8)))) := by
          rw [orB_succ, orStep, HX.out, HY.out]
        refine ⟨k + 1, by omega, by go_num, ?_, (hf.setCell _ _ _ _ (fun h => by have := HGA.out; omega)).drew⟩
        rw [e, ← ws_set]
        exact (hak.set _ _).drew
      case measure => simp [intOf]; omega
    · have hge : ¬ ((k : Int) < 200) := by omega
      have hk200 : k = 200 := by omega
      have hor : orB zeros25 s.data.toList k = xorB zeros25 s.data.toList 200 := by rw [hk200]; exact (or_same s.data.toList 200 (by omega)).1
      rw [hor] at hak
      have hsl : (xorB zeros25 s.data.toList 200).length = 25 := by rw [xorB_len]; simp [zeros25]
      have hpb : permB s.data.toList = toB (permR (turnsK 24) (fun r => rcR r 7) (xorB zeros25 s.data.toList 200) 24) 200 := by rw [permR_eq _ hsl]; rfl
      generalize xorB zeros25 s.data.toList 200 = S at *
      clear hor hk200
      have HPB := Lib.hid hpb; clear hpb
      have HSL := Lib.hid hsl; clear hsl
      go_wp2_with fail
      refine (offsets_any _).mono ?_
      rintro e w2 ⟨rfl, ht2, hf2⟩
      have ha2 := hak.keep hf2 id
      have hfr2 := hf.then hf2
      generalize wr.heap.size = gt at *
      clear hak hf hf2
      go_wp2_with fail
      go_loopw [3, 6] (fun v i wr => ∃ (r g : Nat), r ≤ 24 ∧ i = .int .i64 r ∧ v = .slice (some ⟨g, 0, none⟩) 25 25 ∧ Has wr g (ws (permR (turnsK 24) (fun r => rcR r 7) S r)) 40 ∧ Has wr gt (is (turnsK 24)) 3 ∧ Fr Nob w wr) (fun _ i _ => (24 - intOf i).toNat)
      case atStart => exact ⟨0, ga, by omega, rfl, rfl, by simpa [permR] using ha2, ht2, hfr2⟩
      case round =>
        obtain ⟨r, g, hr, rfl, rfl, hgr, htr, hfr⟩ := hrel
        clear ha2 ht2 hfr2
        by_cases hlt2 : r < 24
        · have hlt2I : (r : Int) < 24 := by omega
          have hpl : (permR (turnsK 24) (fun r => rcR r 7) S r).length = 25 := permR_len _ _ _ _ HSL.out
          go_wp2_with fail
          refine (constR_any r hlt2 _).mono ?_
          rintro e w' ⟨rfl, rfl⟩
          go_wp2_with fail
          refine (round_any _ _ 25 _ _ (permR (turnsK 24) (fun r => rcR r 7) S r) (rcR r 7) _ rfl (by have := Rd.whole hgr; rwa [length_ws, hpl] at this) (by have := Rd.whole htr; rwa [length_is, turnsK_len] at this)).mono ?_
          rintro e w3 ⟨g3, rfl, hg3, hh3, hf3⟩
          go_wp2_with fail
          go_roundw
          case rel => exact ⟨r + 1, g3, by omega, by go_num, rfl, by rw [permR_succ]; exact hh3, htr.keep hf3 id, hfr.then hf3⟩
          case measure => simp [intOf]; omega
        · have hge2 : ¬ ((r : Int) < 24) := by omega
          have hr24 : r = 24 := by omega
          have hpl : (permR (turnsK 24) (fun r => rcR r 7) S r).length = 25 := permR_len _ _ _ _ HSL.out
          have hpb2 : permB s.data.toList = toB (permR (turnsK 24) (fun r => rcR r 7) S r) 200 := by rw [HPB.out, hr24]
          generalize permR (turnsK 24) (fun r => rcR r 7) S r = R at *
          have HPB2 := Lib.hid hpb2; clear hpb2
          clear hr24 htr
          go_wp2_with (at_make; refine wl_make rfl rfl Tryd.underlying26 info_u8 rfl rfl rfl 200 200 (by simp) (by simp) (by omega) (by omega) (by unfold maxLen; omega) ?_; intro w4 hw4 hf4 hz4)
          have hgo : g < wr.heap.size := hgr.lt
          have hgb : w.heap.size ≤ wr.heap.size := hfr.size
          have ho4 : Has w4 wr.heap.size (bs (fill (toB R 200) (List.replicate 200 0) 0)) 5 := by rw [fill_zero]; simpa [bs] using hw4
          have hg4 := hgr.keep hf4 id
          have hfr4 := hfr.then hf4
          generalize wr.heap.size = go at *
          clear hw4 hf4 hz4 hgr hfr
          go_wp2_with fail
          go_loopw [8] (fun i wr => ∃ k : Nat, k ≤ 200 ∧ i = .int .i64 k ∧ Has wr go (bs (fill (toB R 200) (List.replicate 200 0) k)) 5 ∧ Has wr g (ws R) 40 ∧ Fr Nob w wr) (fun i _ => (200 - intOf i).toNat)
          case atStart => exact ⟨0, by omega, rfl, ho4, hg4, hfr4⟩
          case round =>
            obtain ⟨k, hk, rfl, hh, hg2, hf⟩ := hrel
            clear ho4 hg4 hfr4
            by_cases hlt3 : k < 200
            · have hlt3I : (k : Int) < 200 := by omega
              obtain ⟨v0, hc0, hfr0⟩ := hh.ready (i := k) (by rw [length_bs, fill_length _ _ _ (by simp [toB_len])]; simpa using hlt3)
              have hc : wr.cell? ⟨g, k / 8, none⟩ = some (.int .u64 ((R.getD (k / 8) 0).toNat : Int)) := hg2.cell (ws_get _ _ (by omega))
              have hlo : (0 : Int) ≤ (k : Int) / 8 ∧ (k : Int) / 8 < 25 := by omega
              generalize hy : R.getD (k / 8) 0 = y at hc
              have HY := Lib.hid hy; clear hy
              have HPL := Lib.hid hpl; clear hpl
              go_wp2
              go_roundw
              case rel =>
                have e : (toB R 200).getD k 0 = lo8 (shr y (8 * (k % 8))) := by rw [toB_at R 200 k hlt3, sByte, HY.out]
                refine ⟨k + 1, by omega, by go_num, ?_, hg2.other _ _ _ (by omega), hf.setCell _ _ _ _ (fun h => absurd h (by omega))⟩
                rw [← e]
                exact hh.fillB (by simp [toB_len]) (by simpa [toB_len] using hlt3)
              case measure => simp [intOf]; omega
            · have hge3 : ¬ ((k : Int) < 200) := by omega
              rw [fill_all _ _ _ (by simp [toB_len]) (by simp [toB_len]; omega)] at hh
              go_wp2_with (with_reducible refine wl_stop (o := ⟨some 61, _, _, _, _, _⟩) ?_)
              refine wl_string rfl rfl Tryd.underlying26 Tryd.underlying5 Tryd.underlying9 rfl (l := toB R 200) (by have := Rd.whole hh; rwa [length_bs, toB_len] at this) ?_
              go_wp2
              go_ret
              exact ⟨by rw [HPB2.out]; rfl, hf⟩
end Go.Proofs.YtgkakddldobpkaaDoor

/- Pure sponge: bytes are fed one by one; the sponge and what is hashed with it. -/
namespace Mvp

/-- one more byte: at the end of a piece the state is turned -/
def feed1 (st : List UInt64 × Nat) (x : UInt8) : List UInt64 × Nat :=
  if st.2 + 1 = 136 then (permS (xorStep st.1 st.2 x), 0) else (xorStep st.1 st.2 x, st.2 + 1)
def feed (st : List UInt64 × Nat) (l : List UInt8) : List UInt64 × Nat := l.foldl feed1 st
theorem feed_append (st : List UInt64 × Nat) (l m : List UInt8) : feed st (l ++ m) = feed (feed st l) m := by simp [feed]
theorem feed_nil (st : List UInt64 × Nat) : feed st [] = st := rfl
theorem feed_cons (st : List UInt64 × Nat) (x : UInt8) (l : List UInt8) : feed st (x :: l) = feed (feed1 st x) l := rfl

/-- bytes are added from place k on -/
def xorAt : List UInt64 → Nat → List UInt8 → List UInt64
  | S, _, [] => S
  | S, k, x :: l => xorAt (xorStep S k x) (k + 1) l
theorem xorStep_len (S : List UInt64) (k : Nat) (x : UInt8) : (xorStep S k x).length = S.length := by simp [xorStep]
theorem xorAt_len (l : List UInt8) : ∀ (S : List UInt64) (k : Nat), (xorAt S k l).length = S.length := by
  induction l with
  | nil => intro S k; rfl
  | cons x l ih => intro S k; rw [xorAt, ih, xorStep_len]
theorem feed_short (l : List UInt8) : ∀ (S : List UInt64) (k : Nat), k + l.length < 136 → feed (S, k) l = (xorAt S k l, k + l.length) := by
  induction l with
  | nil => intro S k _; rfl
  | cons x l ih =>
    intro S k h
    simp only [List.length_cons] at h
    rw [feed_cons, feed1, if_neg (by simp; omega), ih _ _ (by simp; omega), xorAt]
    simp; omega
theorem feed_full (l : List UInt8) : ∀ (S : List UInt64) (k : Nat), k + l.length = 136 → k < 136 → feed (S, k) l = (permS (xorAt S k l), 0) := by
  induction l with
  | nil => intro S k h h'; simp at h; omega
  | cons x l ih =>
    intro S k h h'
    simp only [List.length_cons] at h
    by_cases hl : l = []
    · subst hl
      simp at h
      rw [feed_cons, feed1, if_pos (by simp; omega), feed_nil]
      rfl
    · have hp : 0 < l.length := List.length_pos_iff.2 hl
      rw [feed_cons, feed1, if_neg (by simp; omega), ih _ _ (by simp; omega) (by simp; omega), xorAt]
theorem feed_lt (l : List UInt8) : ∀ (st : List UInt64 × Nat), st.2 < 136 → (feed st l).2 < 136 := by
  induction l with
  | nil => intro st h; exact h
  | cons x l ih =>
    intro st h
    rw [feed_cons]
    apply ih
    unfold feed1
    split
    · simp
    · simp; omega
theorem feed_len (l : List UInt8) : ∀ (st : List UInt64 × Nat), (feed st l).1.length = st.1.length := by
  induction l with
  | nil => intro st; rfl
  | cons x l ih =>
    intro st
    rw [feed_cons, ih]
    unfold feed1
    split
    · simp [permS_len, xorStep_len]
    · simp [xorStep_len]

theorem xorStep_zero (S : List UInt64) (k : Nat) : xorStep S k 0 = S := by
  have e : shl (wid 0) (8 * (k % 8)) = 0 := by
    apply UInt64.toNat_inj.1
    simp [shl, wid]
  unfold xorStep
  rw [e]
  have e2 : wx (S.getD (k / 8) 0) 0 = S.getD (k / 8) 0 := by simp [wx]
  rw [e2]
  rcases Nat.lt_or_ge (k / 8) S.length with h | h
  · have e3 : S.getD (k / 8) 0 = S[k / 8] := by simp [List.getD_eq_getElem?_getD, h]
    rw [e3]; simp
  · exact List.set_eq_of_length_le h
/-- the bytes of b are added, the first ones being 0 -/
theorem xorB_eq (S : List UInt64) (b : List UInt8) (n : Nat) : n ≤ b.length → xorB S b n = xorAt S 0 (b.take n) := by
  have key : ∀ (l : List UInt8) (S : List UInt64) (k : Nat) (x : UInt8), xorAt S k (l ++ [x]) = xorStep (xorAt S k l) (k + l.length) x := by
    intro l
    induction l with
    | nil => intro S k x; rfl
    | cons y l ih =>
      intro S k x
      rw [List.cons_append, xorAt, ih, xorAt]
      simp [Nat.add_assoc, Nat.add_comm 1]
  induction n with
  | zero => intro _; simp [xorB, xorAt]
  | succ n ih =>
    intro h
    have hn : n < b.length := by omega
    rw [xorB_succ, ih (by omega), List.take_succ_eq_append_getElem hn, key]
    congr 1
    · simp; omega
    · simp [List.getD_eq_getElem?_getD, hn]
theorem xorAt_zeros (S : List UInt64) (k : Nat) (l : List UInt8) : ∀ j, xorAt S j (List.replicate k 0 ++ l) = xorAt S (j + k) l := by
  induction k with
  | zero => intro j; simp
  | succ k ih =>
    intro j
    rw [List.replicate_succ, List.cons_append, xorAt, xorStep_zero, ih, Nat.add_assoc, Nat.add_comm 1 k]
/-- a piece with its bytes from place k on -/
theorem xorB_piece (S : List UInt64) (k : Nat) (l rest : List UInt8) : xorB S (List.replicate k 0 ++ l ++ rest) (k + l.length) = xorAt S k l := by
  rw [xorB_eq _ _ _ (by simp), List.take_left' (by simp), xorAt_zeros]
  simp

/- the sponge -/
attribute [local irreducible] permS toB
/-- what ends the text: so many bytes are in the last piece -/
def padL (k : Nat) (e : UInt8) : List UInt8 := ((e :: List.replicate (135 - k) 0).set (135 - k) (bx (((e :: List.replicate (135 - k) 0)).getD (135 - k) 0) 0x80))
theorem padL_len (k : Nat) (e : UInt8) (h : k < 136) : (padL k e).length = 136 - k := by simp [padL]; omega
/-- the state behind the text -/
def ended (st : List UInt64 × Nat) (e : UInt8) : List UInt64 := (feed st (padL st.2 e)).1
/-- k pieces of the answer -/
def squeeze (S : List UInt64) : Nat → List UInt8
  | 0 => []
  | k + 1 => toB S 136 ++ squeeze (permS S) k
def permN (S : List UInt64) : Nat → List UInt64
  | 0 => S
  | k + 1 => permN (permS S) k
theorem permN_succ (k : Nat) : ∀ (S : List UInt64), permN S (k + 1) = permS (permN S k) := by
  induction k with
  | zero => intro S; rfl
  | succ k ih => intro S; rw [permN, ih]; rfl
theorem permN_len (k : Nat) : ∀ (S : List UInt64), (permN S k).length = S.length := by
  induction k with
  | zero => intro S; rfl
  | succ k ih => intro S; rw [permN, ih, permS_len]
theorem squeeze_len (k : Nat) : ∀ (S : List UInt64), (squeeze S k).length = 136 * k := by
  induction k with
  | zero => intro S; rfl
  | succ k ih => intro S; rw [squeeze, List.length_append, toB_len, ih]; omega
theorem squeeze_succ (k : Nat) : ∀ (S : List UInt64), squeeze S (k + 1) = squeeze S k ++ toB (permN S k) 136 := by
  induction k with
  | zero => intro S; simp [squeeze, permN]
  | succ k ih => intro S; rw [squeeze, ih (permS S)]; rw [squeeze, permN, List.append_assoc]
/-- enough pieces for n bytes -/
def pieces (n : Nat) : Nat := (n + 135) / 136
def outB (S : List UInt64) (n : Nat) : List UInt8 := (squeeze S (pieces n)).take n
theorem outB_len (S : List UInt64) (n : Nat) : (outB S n).length = n := by
  simp only [outB, List.length_take, squeeze_len, pieces]; omega
/-- n bytes of the sponge -/
def spongeB (l : List UInt8) (e : UInt8) (n : Nat) : List UInt8 := outB (ended (feed (zeros25, 0) l) e) n
theorem spongeB_len (l : List UInt8) (e : UInt8) (n : Nat) : (spongeB l e n).length = n := outB_len _ _
end Mvp

/- Pure sponge: words and their bytes are one. -/
namespace Mvp

theorem lo8_shr_toNat (a : UInt64) (k : Nat) : (lo8 (shr a k)).toNat = a.toNat / 2 ^ k % 256 := by
  have h : a.toNat / 2 ^ k < 18446744073709551616 := Nat.lt_of_le_of_lt (Nat.div_le_self _ _) a.toNat_lt
  simp only [lo8, shr, UInt64.toNat_toUInt8, UInt64.toNat_ofNat']
  omega
theorem byte_bit (a : UInt64) (k i : Nat) : (lo8 (shr a k)).toNat.testBit i = (decide (i < 8) && a.toNat.testBit (i + k)) := by
  rw [lo8_shr_toNat, show (256 : Nat) = 2 ^ 8 from rfl, Nat.testBit_mod_two_pow, Nat.testBit_div_two_pow]
theorem byte_big (x : UInt8) (i : Nat) (h : 8 ≤ i) : x.toNat.testBit i = false :=
  Nat.testBit_lt_two_pow (Nat.lt_of_lt_of_le x.toNat_lt (by have := Nat.pow_le_pow_right (show 0 < 2 by omega) h; simpa using this))
theorem xor_byte (a : UInt64) (x : UInt8) (m t : Nat) (hm : m < 8) (_ht : t < 8) :
    lo8 (shr (wx a (shl (wid x) (8 * m))) (8 * t)) = if t = m then bx (lo8 (shr a (8 * m))) x else lo8 (shr a (8 * t)) := by
  apply UInt8.toNat_inj.1
  apply Nat.eq_of_testBit_eq
  intro i
  rw [byte_bit]
  have hw : (wx a (shl (wid x) (8 * m))).toNat = a.toNat ^^^ (x.toNat * 2 ^ (8 * m)) := by
    simp only [wx, UInt64.toNat_xor]; rw [shl_wid x _ (by omega)]
  rw [hw, Nat.testBit_xor, Nat.testBit_mul_two_pow]
  by_cases hi : i < 8
  · by_cases e : t = m
    · subst e
      rw [if_pos rfl]
      simp only [bx, UInt8.toNat_xor, Nat.testBit_xor, byte_bit]
      simp [hi]
    · rw [if_neg e, byte_bit]
      have hz : (decide (8 * m ≤ i + 8 * t) && x.toNat.testBit (i + 8 * t - 8 * m)) = false := by
        rcases Nat.lt_or_ge t m with h | h
        · have : ¬ (8 * m ≤ i + 8 * t) := by omega
          simp [this]
        · rw [byte_big x _ (by omega)]; simp
      rw [hz]; simp [hi]
  · have h1 : (decide (i < 8)) = false := by simp [hi]
    rw [h1]
    split
    · rw [byte_big _ i (by omega)]; rfl
    · rw [byte_big _ i (by omega)]; rfl

theorem sByte_xorStep (S : List UInt64) (hS : S.length = 25) (k i : Nat) (x : UInt8) (hk : k < 200) : sByte (xorStep S k x) i = if i = k then bx (sByte S k) x else sByte S i := by
  unfold sByte xorStep
  rw [getD_set _ _ _ _ (by omega)]
  by_cases hd : k / 8 = i / 8
  · rw [if_pos hd, xor_byte _ _ _ _ (by omega) (by omega), ← hd]
    by_cases e : i = k
    · rw [if_pos e, if_pos (by omega)]
    · rw [if_neg e, if_neg (by omega)]
  · rw [if_neg hd, if_neg (by omega)]

/-- words with the same bytes are the same -/
theorem words_ext (S S' : List UInt64) (h : S.length = 25) (h' : S'.length = 25) (hb : ∀ i, i < 200 → sByte S i = sByte S' i) : S = S' := by
  apply List.ext_getElem (by omega)
  intro j hj hj'
  have hw : ∀ (T : List UInt64) (hT : j < T.length), T.getD j 0 = T[j] := fun T hT => by simp [List.getD_eq_getElem?_getD, hT]
  rw [← hw S hj, ← hw S' hj']
  apply UInt64.toNat_inj.1
  apply Nat.eq_of_testBit_eq
  intro i
  rcases Nat.lt_or_ge i 64 with hi | hi
  · have h1 := hb (8 * j + i / 8) (by omega)
    have h2 := congrArg (fun y : UInt8 => y.toNat.testBit (i % 8)) h1
    simp only [sByte] at h2
    rw [byte_bit, byte_bit, show (8 * j + i / 8) / 8 = j by omega, show (8 * j + i / 8) % 8 = i / 8 by omega, show i % 8 + 8 * (i / 8) = i by omega] at h2
    simpa [show i % 8 < 8 by omega] using h2
  · have big : ∀ (y : UInt64), y.toNat.testBit i = false := fun y => Nat.testBit_lt_two_pow (Nat.lt_of_lt_of_le y.toNat_lt (by have := Nat.pow_le_pow_right (show 0 < 2 by omega) hi; simpa using this))
    rw [big, big]
theorem sByte_xorAt (l : List UInt8) : ∀ (S : List UInt64) (k i : Nat), S.length = 25 → k + l.length ≤ 200 → sByte (xorAt S k l) i = if k ≤ i ∧ i < k + l.length then bx (sByte S i) (l.getD (i - k) 0) else sByte S i := by
  induction l with
  | nil => intro S k i _ _; rw [if_neg (by simp)]; rfl
  | cons x l ih =>
    intro S k i hS h
    simp only [List.length_cons] at h
    rw [xorAt, ih _ _ _ (by rw [xorStep_len, hS]) (by omega), sByte_xorStep S hS _ _ _ (by omega)]
    by_cases e : i = k
    · subst e
      rw [if_neg (by omega), if_pos rfl, if_pos (by simp)]
      simp
    · by_cases hr : k + 1 ≤ i ∧ i < k + 1 + l.length
      · rw [if_pos hr, if_neg e, if_pos (by simp; omega), show i - k = (i - (k + 1)) + 1 by omega, List.getD_cons_succ]
      · rw [if_neg hr, if_neg e, if_neg (by simp; omega)]
theorem toB_get (S : List UInt64) (n i : Nat) (h : i < n) : (toB S n).getD i 0 = sByte S i := by
  simp [toB, List.getD_eq_getElem?_getD, List.getElem?_range h]
theorem sByte_zeros (i : Nat) : sByte zeros25 i = 0 := by
  have hz : zeros25.getD (i / 8) 0 = 0 := by
    rcases Nat.lt_or_ge (i / 8) 25 with h | h
    · have : ∀ j, j < 25 → zeros25.getD j 0 = 0 := by decide
      exact this _ h
    · rw [List.getD_eq_getElem?_getD, List.getElem?_eq_none (by simpa [zeros25] using h)]; rfl
  unfold sByte
  rw [hz]
  apply UInt8.toNat_inj.1
  rw [lo8_shr_toNat]; simp
theorem bx_zero (x : UInt8) : bx 0 x = x := by simp [bx]
/-- 200 bytes into words, and back -/
theorem bytes_back (b : List UInt8) (hb : b.length = 200) (i : Nat) (hi : i < 200) : sByte (xorB zeros25 b 200) i = b.getD i 0 := by
  rw [xorB_eq _ _ _ (by omega), List.take_of_length_le (by omega), sByte_xorAt b _ _ _ (by simp [zeros25]) (by omega), if_pos (by omega), sByte_zeros, bx_zero]
  simp
/-- some bytes of the state's are changed: as words -/
theorem words_of (S : List UInt64) (hS : S.length = 25) (l b : List UInt8) (hl : l.length ≤ 200) (hb : b.length = 200) (h : ∀ i, i < 200 → b.getD i 0 = if i < l.length then bx (sByte S i) (l.getD i 0) else sByte S i) : xorB zeros25 b 200 = xorAt S 0 l := by
  refine words_ext _ _ (by rw [xorB_len]; simp [zeros25]) (by rw [xorAt_len, hS]) (fun i hi => ?_)
  rw [bytes_back b hb i hi, sByte_xorAt l S 0 i hS (by omega), h i hi]
  simp
end Mvp

/- Slice expressions as equations on their runs: to be laid ahead of a walk. -/
namespace Go.Mv
open Go.RowKit
variable {P : Program}

theorem cutAt_0 (p : Option Addr) (m : Nat) : cutAt p 0 m = p := by
  unfold cutAt
  split
  · rfl
  · cases p with
    | none => rfl
    | some a => simp [Addr.add]
theorem run_sliceA_lo (w : World) {ty : TypeId} {n : Nat} {e : TypeId} (hu : P.underlying ty = some (.array n e)) (hsz : (P.info? e).map (·.size) = some 1) (g p : Nat) (k : IntKind) (l : Nat) (h : l < n) :
    (Instr.sliceAt ty (.pointer (some ⟨g, p, none⟩)) (some (.int k (l : Int))) none none).run P w = .ok (.slice (some ⟨g, p + l, none⟩) (n - l) (n - l)) w := by
  obtain ⟨i, hi1, hi2⟩ : ∃ i, P.info? e = some i ∧ i.size = 1 := by simpa using hsz
  have hne : ¬ n = l := by omega
  have hle : l ≤ n := by omega
  simp [Instr.sliceAt, run_underlying hu, Instr.sliceBounds, run_sliceBound, hle, sizeOf, typeInfo, hi1, hi2, hne, addr_add, Instr.sureAddr]
theorem run_sliceA_hi (w : World) {ty : TypeId} {n : Nat} {e : TypeId} (hu : P.underlying ty = some (.array n e)) (hsz : (P.info? e).map (·.size) = some 1) (g p : Nat) (k : IntKind) (h : Nat) (hh : h ≤ n) :
    (Instr.sliceAt ty (.pointer (some ⟨g, p, none⟩)) none (some (.int k (h : Int))) none).run P w = .ok (.slice (some ⟨g, p, none⟩) h n) w := by
  obtain ⟨i, hi1, hi2⟩ : ∃ i, P.info? e = some i ∧ i.size = 1 := by simpa using hsz
  simp [Instr.sliceAt, run_underlying hu, Instr.sliceBounds, run_sliceBound, hh, sizeOf, typeInfo, hi1, Addr.add, Instr.sureAddr]
theorem run_sliceA_all (w : World) {ty : TypeId} {n : Nat} {e : TypeId} (hu : P.underlying ty = some (.array n e)) (hsz : (P.info? e).map (·.size) = some 1) (g p : Nat) :
    (Instr.sliceAt ty (.pointer (some ⟨g, p, none⟩)) none none none).run P w = .ok (.slice (some ⟨g, p, none⟩) n n) w := by
  obtain ⟨i, hi1, hi2⟩ : ∃ i, P.info? e = some i ∧ i.size = 1 := by simpa using hsz
  simp [Instr.sliceAt, run_underlying hu, Instr.sliceBounds, sizeOf, typeInfo, hi1, Addr.add, Instr.sureAddr]
theorem run_slice_hi (w : World) {ty e : TypeId} (hu : P.underlying ty = some (.slice e)) (hsz : (P.info? e).map (·.size) = some 1) (p : Option Addr) (n c : Nat) (k : IntKind) (h : Nat) (hh : h ≤ c) :
    (Instr.sliceAt ty (.slice p n c) none (some (.int k (h : Int))) none).run P w = .ok (.slice p h c) w := by
  obtain ⟨i, hi1, hi2⟩ : ∃ i, P.info? e = some i ∧ i.size = 1 := by simpa using hsz
  have := cutAt_0 p c
  simp [Instr.sliceAt, Instr.slice, run_underlying hu, Instr.sliceBounds, run_sliceBound, hh, sizeOf, typeInfo, hi1, Addr.add]
theorem run_slice_lo (w : World) {ty e : TypeId} (hu : P.underlying ty = some (.slice e)) (hsz : (P.info? e).map (·.size) = some 1) (p : Option Addr) (n c : Nat) (k : IntKind) (l : Nat) (hl : l ≤ n) :
    (Instr.sliceAt ty (.slice p n c) (some (.int k (l : Int))) none none).run P w = .ok (.slice (cutAt p l c) (n - l) (c - l)) w := by
  obtain ⟨i, hi1, hi2⟩ : ∃ i, P.info? e = some i ∧ i.size = 1 := by simpa using hsz
  simp [Instr.sliceAt, Instr.slice, run_underlying hu, Instr.sliceBounds, run_sliceBound, hl, sizeOf, typeInfo, hi1, hi2, cutAt]

/-- min of two ints -/
theorem wl_min {w : World} {ops : Array Oper} {rest : List Oper} {o : Oper} {a : Act} {Q : Exit → Act → World → Prop} {x y : Operand} {ts : Array TypeId} (hgd : o.guard = none) (ho : o.op = .call { callee := .builtin .min, args := #[x, y], argTypes := ts })
    {k k' : IntKind} {xi yi : Int} (hx : a.eval x = .int k xi) (hy : a.eval y = .int k' yi) (r : Nat) (hr : (if yi < xi then yi else xi) = (r : Int)) (h : wpList P ops Q rest (a.put o.dst (.int k (r : Int))) w) : wpList P ops Q (o :: rest) a w := by
  refine wpList_plain hgd fun K hK => ?_
  have hrun : (Builtin.min_ ts o.type #[.int k xi, .int k' yi]).run P w = .ok (.int k (r : Int)) w := by rw [run_min_int2, hr]
  unfold Oper.wp execOp
  simp only [ho, resolve, invoke, builtin, Sem.run_bind, Sem.run_pure, Result.andThen_ok, List.map_toArray, List.map_cons, List.map_nil, hx, hy, hrun]
  exact hK _ _ h
end Go.Mv
