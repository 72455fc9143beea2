import Derived.Test.YtgkakddldobpkaaTree1
/- The tree, plain: what a growth leads to. -/
namespace Mvt
variable {α S : Type} (L R : S → α → S)
/-- the program's way, for any state -/
def climbG : Nat → Nat → S → List α → Option S
  | _, e, h, [] => if e = 0 then some h else none
  | a, e, h, b :: p => if e = 0 then none else
      if a % 2 = 0 ∧ a ≠ e then climbG (a / 2) (e / 2) (L h b) p
      else climbG ((skip a e).1 / 2) ((skip a e).2 / 2) (R h b) p

theorem climbG_left (m : Nat) : ∀ (a e : Nat) (h : S) (x : α) (p : List α), a < 2 ^ m → 2 ^ m ≤ e → e < 2 ^ (m + 1) → climbG L R a e h (p ++ [x]) = (climbG L R a (2 ^ m - 1) h p).map fun y => L y x := by
  induction m with
  | zero =>
    intro a e h x p ha he he2
    have e1 : e = 1 := by simp at he he2; omega
    have a0 : a = 0 := by simpa using ha
    subst e1 a0
    cases p with
    | nil => simp [climbG]
    | cons c p =>
      cases hp : p ++ [x] with
      | nil => simp at hp
      | cons b q => simp [climbG, hp]
  | succ m ih =>
    intro a e h x p ha he he2
    have hp2 : 2 ^ (m + 1) = 2 * 2 ^ m := by rw [Nat.pow_succ]; omega
    have hp3 : 2 ^ (m + 1 + 1) = 2 * 2 ^ (m + 1) := by rw [Nat.pow_succ]; omega
    have hpos : 0 < 2 ^ m := Nat.two_pow_pos m
    have hne : ¬ e = 0 := by omega
    have hne2 : ¬ 2 ^ (m + 1) - 1 = 0 := by omega
    have hdiv : (2 ^ (m + 1) - 1) / 2 = 2 ^ m - 1 := by omega
    cases p with
    | nil =>
      have h1 : climbG L R a e h ([] ++ [x]) = none := by
        simp only [List.nil_append, climbG, if_neg hne]
        by_cases hev : a % 2 = 0 ∧ a ≠ e
        · rw [if_pos hev, if_neg (by omega)]
        · have hod : a % 2 = 1 := by omega
          rw [if_neg hev, skip_odd a e hod, if_neg (by simp only; omega)]
      rw [h1]
      simp [climbG, hne2]
    | cons c p =>
      simp only [List.cons_append, climbG, if_neg hne, if_neg hne2]
      by_cases hev : a % 2 = 0
      · rw [if_pos ⟨hev, by omega⟩, if_pos ⟨hev, by omega⟩, hdiv]
        exact ih (a / 2) (e / 2) _ x p (by omega) (by omega) (by omega)
      · rw [if_neg (by omega), if_neg (by omega), skip_odd a e (by omega), skip_odd a _ (by omega), hdiv]
        exact ih (a / 2) (e / 2) _ x p (by omega) (by omega) (by omega)

theorem climbG_right (m : Nat) : ∀ (a e : Nat) (h : S) (x : α) (p : List α), 2 ^ m ≤ a → a ≤ e → e < 2 ^ (m + 1) → climbG L R a e h (p ++ [x]) = (climbG L R (a - 2 ^ m) (e - 2 ^ m) h p).map fun y => R y x := by
  induction m using Nat.strongRecOn with
  | _ m ih =>
  intro a e h x p ha he he2
  have hpos : 0 < 2 ^ m := Nat.two_pow_pos m
  have hp1 : 2 ^ (m + 1) = 2 * 2 ^ m := by rw [Nat.pow_succ]; omega
  have hne : ¬ e = 0 := by omega
  by_cases h0 : e = 2 ^ m
  · have ha0 : a = 2 ^ m := by omega
    subst h0 ha0
    have hsk : ∀ k, skip (2 ^ k) (2 ^ k) = (1, 1) := by
      intro k
      induction k with
      | zero => rw [skip_odd _ _ (by simp)]
      | succ k ih2 =>
        have : 2 ^ (k + 1) / 2 = 2 ^ k := by rw [Nat.pow_succ]; omega
        rw [skip_even _ _ (by rw [Nat.pow_succ]; omega) (Nat.two_pow_pos _), this, ih2]
    cases p with
    | nil =>
      simp only [List.nil_append, climbG, if_neg hne]
      rw [if_neg (by omega), hsk m]
      simp
    | cons c p =>
      simp only [List.cons_append, climbG, if_neg hne]
      rw [if_neg (by omega), hsk m]
      cases hp : p ++ [x] with
      | nil => simp at hp
      | cons b q => simp [climbG]
  have hlt : 2 ^ m < e := by omega
  have hm : m ≠ 0 := by intro h; subst h; simp at *; omega
  obtain ⟨k, rfl⟩ : ∃ k, m = k + 1 := ⟨m - 1, by omega⟩
  have hp2 : 2 ^ (k + 1) = 2 * 2 ^ k := by rw [Nat.pow_succ]; omega
  have hposk : 0 < 2 ^ k := Nat.two_pow_pos k
  have hne2 : ¬ e - 2 ^ (k + 1) = 0 := by omega
  by_cases hL : a % 2 = 0 ∧ a ≠ e
  · have hL2 : (a - 2 ^ (k + 1)) % 2 = 0 ∧ a - 2 ^ (k + 1) ≠ e - 2 ^ (k + 1) := by omega
    have d1 : (a - 2 ^ (k + 1)) / 2 = a / 2 - 2 ^ k := by omega
    have d2 : (e - 2 ^ (k + 1)) / 2 = e / 2 - 2 ^ k := by omega
    cases p with
    | nil =>
      simp only [List.nil_append, climbG, if_neg hne, if_neg hne2, if_pos hL]
      rw [if_neg (by omega)]; rfl
    | cons c p =>
      simp only [List.cons_append, climbG, if_neg hne, if_neg hne2, if_pos hL, if_pos hL2, d1, d2]
      exact ih k (by omega) (a / 2) (e / 2) _ x p (by omega) (by omega) (by omega)
  · have hL2 : ¬ ((a - 2 ^ (k + 1)) % 2 = 0 ∧ a - 2 ^ (k + 1) ≠ e - 2 ^ (k + 1)) := by omega
    by_cases hodd : a % 2 = 1
    · have d1 : (a - 2 ^ (k + 1)) / 2 = a / 2 - 2 ^ k := by omega
      have d2 : (e - 2 ^ (k + 1)) / 2 = e / 2 - 2 ^ k := by omega
      cases p with
      | nil =>
        simp only [List.nil_append, climbG, if_neg hne, if_neg hne2, if_neg hL]
        rw [skip_odd a e hodd, if_neg (by simp only; omega)]; rfl
      | cons c p =>
        simp only [List.cons_append, climbG, if_neg hne, if_neg hne2, if_neg hL, if_neg hL2]
        rw [skip_odd a e hodd, skip_odd (a - 2 ^ (k + 1)) _ (by omega)]
        simp only [d1, d2]
        exact ih k (by omega) (a / 2) (e / 2) _ x p (by omega) (by omega) (by omega)
    · have hae : a = e := by omega
      subst hae
      obtain ⟨j, hj, h1, h2, h3, h4, h5⟩ := skip_sub (k + 1) a hlt he2
      obtain ⟨i, rfl⟩ : ∃ i, j = i + 1 := ⟨j - 1, by omega⟩
      have hpi : 2 ^ (i + 1) = 2 * 2 ^ i := by rw [Nat.pow_succ]; omega
      have hposi : 0 < 2 ^ i := Nat.two_pow_pos i
      cases p with
      | nil =>
        simp only [List.nil_append, climbG, if_neg hne, if_neg hne2, if_neg hL]
        rw [h1, if_neg (by simp only; omega)]; rfl
      | cons c p =>
        simp only [List.cons_append, climbG, if_neg hne, if_neg hne2, if_neg hL, if_neg hL2]
        rw [h1, h2]
        generalize (skip (a - 2 ^ (k + 1)) (a - 2 ^ (k + 1))).1 = s at *
        simp only
        have d1 : s / 2 = (s + 2 ^ (i + 1)) / 2 - 2 ^ i := by omega
        rw [d1]
        exact ih i (by omega) ((s + 2 ^ (i + 1)) / 2) ((s + 2 ^ (i + 1)) / 2) _ x p (by omega) (Nat.le_refl _) (by omega)

variable (nd : α → α → α)
/-- to the left, to the right, of two hashes -/
def gL (s : α × α) (b : α) : α × α := (s.1, nd s.2 b)
def gR (s : α × α) (b : α) : α × α := (nd b s.1, nd b s.2)
/-- up, as far as it is odd -/
def strip (a e : Nat) : Nat × Nat := if a % 2 = 1 then strip (a / 2) (e / 2) else (a, e)
termination_by a
decreasing_by omega
theorem strip_odd (a e : Nat) (h : a % 2 = 1) : strip a e = strip (a / 2) (e / 2) := by rw [strip, if_pos h]
theorem strip_even (a e : Nat) (h : a % 2 = 0) : strip a e = (a, e) := by rw [strip, if_neg (by omega)]
/-- what the program reckons of a growth that begins with the old part's root -/
def grow0 (a e : Nat) : List α → Option (α × α)
  | [] => none
  | g :: p => climbG (gL nd) (gR nd) (strip a e).1 (strip a e).2 (g, g) p
/-- what a growth leads to: its entries in reverse -/
def growsR (d : α) (old : α) : List α → Nat → Nat → Bool → (α × α) × Bool
  | [], m, n, w => if m = n then (if w then ((old, old), true) else ((d, d), false)) else ((d, d), false)
  | x :: r, m, n, w => if m = n then (if w then ((old, old), false) else if r.length = 0 then ((x, x), true) else ((d, d), false)) else
      if m ≤ half n then (((growsR d old r m (half n) w).1.1, nd (growsR d old r m (half n) w).1.2 x), (growsR d old r m (half n) w).2)
      else ((nd x (growsR d old r (m - half n) (n - half n) false).1.1, nd x (growsR d old r (m - half n) (n - half n) false).1.2), (growsR d old r (m - half n) (n - half n) false).2)
def opt (p : (α × α) × Bool) : Option (α × α) := if p.2 = true then some p.1 else none

theorem strip_left (t : Nat) : ∀ (a e : Nat), a < 2 ^ t → 2 ^ t ≤ e → e < 2 ^ (t + 1) → ∃ u, (strip a e).1 = (strip a (2 ^ t - 1)).1 ∧ (strip a (2 ^ t - 1)).2 = 2 ^ u - 1 ∧ (strip a e).1 < 2 ^ u ∧ 2 ^ u ≤ (strip a e).2 ∧ (strip a e).2 < 2 ^ (u + 1) := by
  induction t with
  | zero =>
    intro a e h1 h2 h3
    have a0 : a = 0 := by simpa using h1
    subst a0
    refine ⟨0, ?_⟩
    rw [strip_even 0 e rfl, strip_even 0 _ rfl]
    exact ⟨rfl, rfl, by simp, h2, h3⟩
  | succ t ih =>
    intro a e h1 h2 h3
    have hp2 : 2 ^ (t + 1) = 2 * 2 ^ t := by rw [Nat.pow_succ]; omega
    have hp3 : 2 ^ (t + 1 + 1) = 2 * 2 ^ (t + 1) := by rw [Nat.pow_succ]; omega
    have hpos : 0 < 2 ^ t := Nat.two_pow_pos t
    by_cases hod : a % 2 = 1
    · have hd : (2 ^ (t + 1) - 1) / 2 = 2 ^ t - 1 := by omega
      rw [strip_odd a e hod, strip_odd a _ hod, hd]
      exact ih (a / 2) (e / 2) (by omega) (by omega) (by omega)
    · refine ⟨t + 1, ?_⟩
      rw [strip_even a e (by omega), strip_even a _ (by omega)]
      exact ⟨rfl, rfl, h1, h2, h3⟩
theorem strip_right (t : Nat) : ∀ (a e : Nat), 2 ^ t ≤ a → a < e → e < 2 ^ (t + 1) → ∃ u, (strip (a - 2 ^ t) (e - 2 ^ t)).1 = (strip a e).1 - 2 ^ u ∧ (strip (a - 2 ^ t) (e - 2 ^ t)).2 = (strip a e).2 - 2 ^ u ∧ 2 ^ u ≤ (strip a e).1 ∧ (strip a e).1 ≤ (strip a e).2 ∧ (strip a e).2 < 2 ^ (u + 1) := by
  induction t with
  | zero => intro a e h1 h2 h3; simp at h1 h3; omega
  | succ t ih =>
    intro a e h1 h2 h3
    have hp2 : 2 ^ (t + 1) = 2 * 2 ^ t := by rw [Nat.pow_succ]; omega
    have hp3 : 2 ^ (t + 1 + 1) = 2 * 2 ^ (t + 1) := by rw [Nat.pow_succ]; omega
    by_cases hod : a % 2 = 1
    · have d1 : (a - 2 ^ (t + 1)) / 2 = a / 2 - 2 ^ t := by omega
      have d2 : (e - 2 ^ (t + 1)) / 2 = e / 2 - 2 ^ t := by omega
      rw [strip_odd a e hod, strip_odd (a - 2 ^ (t + 1)) _ (by omega), d1, d2]
      exact ih (a / 2) (e / 2) (by omega) (by omega) (by omega)
    · refine ⟨t + 1, ?_⟩
      rw [strip_even a e (by omega), strip_even (a - 2 ^ (t + 1)) _ (by omega)]
      exact ⟨rfl, rfl, h1, by simp only; omega, h3⟩
theorem strip_full (t : Nat) : strip (2 ^ t - 1) (2 ^ t - 1) = (0, 0) := by
  induction t with
  | zero => rw [strip_even _ _ rfl]
  | succ t ih =>
    have hp2 : 2 ^ (t + 1) = 2 * 2 ^ t := by rw [Nat.pow_succ]; omega
    have hpos : 0 < 2 ^ t := Nat.two_pow_pos t
    rw [strip_odd _ _ (by omega), show (2 ^ (t + 1) - 1) / 2 = 2 ^ t - 1 by omega, ih]

/-- without the beginning: both ways lead to the same -/
theorem grows_climb (d old : α) : ∀ (r : List α) (m n : Nat), 1 ≤ m → m ≤ n → (m < n ∨ ∃ t, n = 2 ^ t) → grow0 nd (m - 1) (n - 1) r.reverse = opt (growsR nd d old r m n false) := by
  intro r
  induction r with
  | nil =>
    intro m n _ _ _
    simp [grow0, growsR, opt]
  | cons x r ih =>
    intro m n hm hmn hor
    by_cases he : m = n
    · subst he
      obtain ⟨t, rfl⟩ : ∃ t, m = 2 ^ t := hor.resolve_left (by omega)
      simp only [growsR, if_true]
      cases hr : r with
      | nil => simp [grow0, opt, strip_full, climbG]
      | cons y r' =>
        rw [List.reverse_cons, List.reverse_cons]
        cases hp : r'.reverse ++ [y] with
        | nil => simp at hp
        | cons g p =>
          rw [List.cons_append, grow0, strip_full]
          cases hq : p ++ [x] with
          | nil => simp at hq
          | cons b q => simp [climbG, opt]
    · have hl := half_le n (by omega)
      have hu := half_lt n (by omega)
      have hpp := half_pos n
      have hps : 2 ^ (Nat.log2 (n - 1) + 1) = 2 * half n := by rw [Nat.pow_succ]; unfold half; omega
      have hh : half n = 2 ^ Nat.log2 (n - 1) := rfl
      rw [List.reverse_cons]
      simp only [growsR, if_neg he]
      by_cases hk : m ≤ half n
      · rw [if_pos hk]
        have hI := ih m (half n) hm hk (.inr ⟨_, hh⟩)
        obtain ⟨u, s1, s2, s3, s4, s5⟩ := strip_left (Nat.log2 (n - 1)) (m - 1) (n - 1) (by rw [← hh]; omega) (by rw [← hh]; omega) (by rw [hps]; omega)
        rw [← hh] at s1 s2
        cases hp : r.reverse with
        | nil =>
          rw [hp] at hI
          simp only [grow0] at hI
          simp only [List.nil_append, grow0, climbG]
          rw [if_neg (by have := Nat.two_pow_pos u; omega)]
          unfold opt at hI ⊢
          split at hI <;> simp_all
        | cons g p =>
          rw [hp] at hI
          simp only [grow0] at hI
          simp only [List.cons_append, grow0]
          rw [climbG_left (gL nd) (gR nd) u _ _ _ x p s3 s4 s5, s1, ← s2, hI]
          unfold opt
          split <;> simp_all [gL]
      · rw [if_neg hk]
        have hI := ih (m - half n) (n - half n) (by omega) (by omega) (.inl (by omega))
        rw [show m - half n - 1 = m - 1 - half n by omega, show n - half n - 1 = n - 1 - half n by omega] at hI
        obtain ⟨u, s1, s2, s3, s4, s5⟩ := strip_right (Nat.log2 (n - 1)) (m - 1) (n - 1) (by rw [← hh]; omega) (by omega) (by rw [hps]; omega)
        rw [← hh] at s1 s2
        cases hp : r.reverse with
        | nil =>
          rw [hp] at hI
          simp only [grow0] at hI
          simp only [List.nil_append, grow0, climbG]
          rw [if_neg (by have := Nat.two_pow_pos u; omega)]
          unfold opt at hI ⊢
          split at hI <;> simp_all
        | cons g p =>
          rw [hp] at hI
          simp only [grow0] at hI
          simp only [List.cons_append, grow0]
          rw [climbG_right (gL nd) (gR nd) u _ _ _ x p s3 s4 s5, ← s1, ← s2, hI]
          unfold opt
          split <;> simp_all [gR]

theorem pow_half (s n : Nat) (h : 2 ^ s < n) : 2 ^ s ≤ half n := by
  have h1 : s ≤ Nat.log2 (n - 1) := (Nat.le_log2 (by have := Nat.two_pow_pos s; omega)).2 (by omega)
  exact Nat.pow_le_pow_right (by decide) h1
/-- with the beginning: of a power of two -/
theorem grows_with (d old : α) (s : Nat) : ∀ (r : List α) (n : Nat), 2 ^ s ≤ n → opt (growsR nd d old r (2 ^ s) n true) = opt (growsR nd d old (r ++ [old]) (2 ^ s) n false) := by
  intro r
  induction r with
  | nil =>
    intro n hn
    by_cases he : 2 ^ s = n
    · simp [growsR, he, opt]
    · have := pow_half s n (by omega)
      simp [growsR, he, opt, this]
  | cons x r ih =>
    intro n hn
    by_cases he : 2 ^ s = n
    · simp [growsR, he, opt]
    · have hk := pow_half s n (by omega)
      have hI := ih (half n) hk
      simp only [List.cons_append, growsR, if_neg he, if_pos hk]
      unfold opt at hI ⊢
      generalize growsR nd d old r (2 ^ s) (half n) true = p at *
      generalize growsR nd d old (r ++ [old]) (2 ^ s) (half n) false = q at *
      obtain ⟨⟨p1, p2⟩, p3⟩ := p
      obtain ⟨⟨q1, q2⟩, q3⟩ := q
      cases p3 <;> cases q3 <;> simp_all
/-- with the beginning: else -/
theorem grows_with2 (d old : α) (m : Nat) (hm : ∀ s, m ≠ 2 ^ s) : ∀ (r : List α) (n : Nat), m < n → opt (growsR nd d old r m n true) = opt (growsR nd d old r m n false) := by
  intro r
  induction r with
  | nil =>
    intro n hn
    simp [growsR, opt, Nat.ne_of_lt hn]
  | cons x r ih =>
    intro n hn
    simp only [growsR, if_neg (Nat.ne_of_lt hn)]
    by_cases hk : m ≤ half n
    · have hlt : m < half n := by
        rcases Nat.lt_or_ge m (half n) with h | h
        · exact h
        · exact absurd (Nat.le_antisymm hk h) (hm _)
      have hI := ih (half n) hlt
      rw [if_pos hk, if_pos hk]
      unfold opt at hI ⊢
      generalize growsR nd d old r m (half n) true = p at *
      generalize growsR nd d old r m (half n) false = q at *
      obtain ⟨⟨p1, p2⟩, p3⟩ := p
      obtain ⟨⟨q1, q2⟩, q3⟩ := q
      cases p3 <;> cases q3 <;> simp_all
    · rw [if_neg hk, if_neg hk]
theorem and_pred (m : Nat) : ∀ (_ : 1 ≤ m), (m &&& (m - 1) = 0 ↔ ∃ s, m = 2 ^ s) := by
  induction m using Nat.strongRecOn with
  | _ m ih =>
    intro h
    by_cases he : m % 2 = 0
    · obtain ⟨j, rfl⟩ : ∃ j, m = 2 * j := ⟨m / 2, by omega⟩
      have hj := ih j (by omega) (by omega)
      have e1 : 2 * j &&& (2 * j - 1) = 2 * (j &&& (j - 1)) := by
        apply Nat.eq_of_testBit_eq
        intro i
        cases i with
        | zero => simp [Nat.testBit_zero]
        | succ i =>
          rw [Nat.testBit_and, Nat.testBit_succ, Nat.testBit_succ, Nat.testBit_succ, show 2 * j / 2 = j by omega, show (2 * j - 1) / 2 = j - 1 by omega, show 2 * (j &&& (j - 1)) / 2 = (j &&& (j - 1)) by omega, Nat.testBit_and]
      rw [e1]
      constructor
      · intro h0
        obtain ⟨s, hs⟩ := hj.1 (by omega)
        exact ⟨s + 1, by rw [Nat.pow_succ]; omega⟩
      · rintro ⟨s, hs⟩
        cases s with
        | zero => simp at hs; omega
        | succ s =>
          have := hj.2 ⟨s, by rw [Nat.pow_succ] at hs; omega⟩
          omega
    · by_cases h1 : m = 1
      · subst h1; exact ⟨fun _ => ⟨0, rfl⟩, fun _ => rfl⟩
      · have e2 : (m &&& (m - 1)).testBit 0 = false := by rw [Nat.testBit_and, Nat.testBit_zero, Nat.testBit_zero]; simp; omega
        have e1 : m &&& (m - 1) = m - 1 := by
          apply Nat.eq_of_testBit_eq
          intro i
          cases i with
          | zero => rw [e2, Nat.testBit_zero]; simp; omega
          | succ i =>
            rw [Nat.testBit_and, Nat.testBit_succ, Nat.testBit_succ, show (m - 1) / 2 = m / 2 by omega, Bool.and_self]
        rw [e1]
        constructor
        · intro h0; omega
        · rintro ⟨s, hs⟩
          cases s with
          | zero => simp at hs; omega
          | succ s => rw [Nat.pow_succ] at hs; omega
end Mvt
