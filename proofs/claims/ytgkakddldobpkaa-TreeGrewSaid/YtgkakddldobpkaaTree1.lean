/- The tree, plain: what a path leads to, from its end (the document) and from its beginning (the program). -/
namespace Mvt
variable {α : Type} (nd : α → α → α)
/-- the greatest power of two below n -/
def half (n : Nat) : Nat := 2 ^ Nat.log2 (n - 1)
theorem half_le (n : Nat) (h : 2 ≤ n) : half n ≤ n - 1 := Nat.log2_self_le (by omega)
theorem half_lt (n : Nat) (_h : 2 ≤ n) : n - 1 < 2 * half n := by
  have := Nat.lt_log2_self (n := n - 1)
  rw [Nat.pow_succ] at this
  unfold half; omega
theorem half_pos (n : Nat) : 0 < half n := Nat.two_pow_pos _
/-- what a path leads to: its entries in reverse, how many leaves, which one -/
def leadsR (d : α) (h : α) : List α → Nat → Nat → α × Bool
  | [], n, _ => if n = 1 then (h, true) else (d, false)
  | e :: r, n, i => if n = 1 then (h, false) else
      if i < half n then (nd (leadsR d h r (half n) i).1 e, (leadsR d h r (half n) i).2)
      else (nd e (leadsR d h r (n - half n) (i - half n)).1, (leadsR d h r (n - half n) (i - half n)).2)
/-- up, as far as nothing stands beside -/
def skip (a e : Nat) : Nat × Nat := if a % 2 = 0 ∧ 0 < a then skip (a / 2) (e / 2) else (a, e)
termination_by a
decreasing_by omega
/-- the program's way -/
def climb : Nat → Nat → α → List α → Option α
  | _, e, h, [] => if e = 0 then some h else none
  | a, e, h, b :: p => if e = 0 then none else
      if a % 2 = 0 ∧ a ≠ e then climb (a / 2) (e / 2) (nd h b) p
      else climb ((skip a e).1 / 2) ((skip a e).2 / 2) (nd b h) p
theorem skip_odd (a e : Nat) (h : a % 2 = 1) : skip a e = (a, e) := by rw [skip, if_neg (by omega)]
theorem skip_even (a e : Nat) (h : a % 2 = 0) (h0 : 0 < a) : skip a e = skip (a / 2) (e / 2) := by rw [skip, if_pos ⟨h, h0⟩]

/-- the left part: it is whole -/
theorem climb_left (m : Nat) : ∀ (a e : Nat) (h x : α) (p : List α), a < 2 ^ m → 2 ^ m ≤ e → e < 2 ^ (m + 1) → climb nd a e h (p ++ [x]) = (climb nd a (2 ^ m - 1) h p).map fun y => nd y x := by
  induction m with
  | zero =>
    intro a e h x p ha he he2
    have e1 : e = 1 := by simp at he he2; omega
    have a0 : a = 0 := by simpa using ha
    subst e1 a0
    cases p with
    | nil => simp [climb]
    | cons c p =>
      have : (p ++ [x]) ≠ [] := by simp
      cases hp : p ++ [x] with
      | nil => exact absurd hp this
      | cons b q => simp [climb, hp]
  | succ m ih =>
    intro a e h x p ha he he2
    have hp2 : 2 ^ (m + 1) = 2 * 2 ^ m := by rw [Nat.pow_succ]; omega
    have hp3 : 2 ^ (m + 1 + 1) = 2 * 2 ^ (m + 1) := by rw [Nat.pow_succ]; omega
    have hpos : 0 < 2 ^ m := Nat.two_pow_pos m
    have hne : ¬ e = 0 := by omega
    have hne2 : ¬ 2 ^ (m + 1) - 1 = 0 := by omega
    have hdiv : (2 ^ (m + 1) - 1) / 2 = 2 ^ m - 1 := by omega
    cases p with
    | nil =>
      have h1 : climb nd a e h ([] ++ [x]) = none := by
        simp only [List.nil_append, climb, if_neg hne]
        by_cases hev : a % 2 = 0 ∧ a ≠ e
        · rw [if_pos hev, if_neg (by omega)]
        · have hod : a % 2 = 1 := by omega
          rw [if_neg hev, skip_odd a e hod, if_neg (by simp only; omega)]
      rw [h1]
      simp [climb, hne2]
    | cons c p =>
      simp only [List.cons_append, climb, if_neg hne, if_neg hne2]
      by_cases hev : a % 2 = 0
      · rw [if_pos ⟨hev, by omega⟩, if_pos ⟨hev, by omega⟩, hdiv]
        exact ih (a / 2) (e / 2) _ x p (by omega) (by omega) (by omega)
      · rw [if_neg (by omega), if_neg (by omega), skip_odd a e (by omega), skip_odd a _ (by omega), hdiv]
        exact ih (a / 2) (e / 2) _ x p (by omega) (by omega) (by omega)

/-- the right part, where nothing is skipped or both are -/
theorem skip_sub (m : Nat) : ∀ (a : Nat), 2 ^ m < a → a < 2 ^ (m + 1) → ∃ j, j ≤ m ∧ (skip a a) = ((skip (a - 2 ^ m) (a - 2 ^ m)).1 + 2 ^ j, (skip (a - 2 ^ m) (a - 2 ^ m)).1 + 2 ^ j) ∧ (skip (a - 2 ^ m) (a - 2 ^ m)).2 = (skip (a - 2 ^ m) (a - 2 ^ m)).1 ∧ (skip (a - 2 ^ m) (a - 2 ^ m)).1 % 2 = 1 ∧ (skip (a - 2 ^ m) (a - 2 ^ m)).1 < 2 ^ j ∧ 1 ≤ j := by
  induction m with
  | zero => intro a h1 h2; simp at h1 h2; omega
  | succ m ih =>
    intro a h1 h2
    have hp2 : 2 ^ (m + 1) = 2 * 2 ^ m := by rw [Nat.pow_succ]; omega
    have hp3 : 2 ^ (m + 1 + 1) = 2 * 2 ^ (m + 1) := by rw [Nat.pow_succ]; omega
    by_cases hev : a % 2 = 0
    · have hs1 := skip_even a a hev (by omega)
      have hs2 := skip_even (a - 2 ^ (m + 1)) (a - 2 ^ (m + 1)) (by omega) (by omega)
      have hd : (a - 2 ^ (m + 1)) / 2 = a / 2 - 2 ^ m := by omega
      rw [hs1, hs2, hd]
      obtain ⟨j, h3, h4⟩ := ih (a / 2) (by omega) (by omega)
      exact ⟨j, by omega, h4⟩
    · rw [skip_odd a a (by omega), skip_odd _ _ (by omega)]
      exact ⟨m + 1, Nat.le_refl _, by simp only; congr <;> omega, rfl, by simp only; omega, by simp only; omega, by omega⟩

theorem climb_right (m : Nat) : ∀ (a e : Nat) (h x : α) (p : List α), 2 ^ m ≤ a → a ≤ e → e < 2 ^ (m + 1) → climb nd a e h (p ++ [x]) = (climb nd (a - 2 ^ m) (e - 2 ^ m) h p).map fun y => nd x y := by
  induction m using Nat.strongRecOn with
  | _ m ih =>
  intro a e h x p ha he he2
  have hpos : 0 < 2 ^ m := Nat.two_pow_pos m
  have hp1 : 2 ^ (m + 1) = 2 * 2 ^ m := by rw [Nat.pow_succ]; omega
  have hne : ¬ e = 0 := by omega
  -- at the very beginning of the right part, alone
  by_cases h0 : e = 2 ^ m
  · have ha0 : a = 2 ^ m := by omega
    subst h0 ha0
    have hsk : ∀ k, skip (2 ^ k) (2 ^ k) = (1, 1) := by
      intro k
      induction k with
      | zero => rw [skip_odd _ _ (by simp)]
      | succ k ih2 =>
        have : 2 ^ (k + 1) / 2 = 2 ^ k := by rw [Nat.pow_succ]; omega
        rw [skip_even _ _ (by rw [Nat.pow_succ]; omega) (Nat.two_pow_pos _), this, ih2]
    cases p with
    | nil =>
      simp only [List.nil_append, climb, if_neg hne]
      rw [if_neg (by omega), hsk m]
      simp
    | cons c p =>
      simp only [List.cons_append, climb, if_neg hne]
      rw [if_neg (by omega), hsk m]
      cases hp : p ++ [x] with
      | nil => simp at hp
      | cons b q => simp [climb]
  have hlt : 2 ^ m < e := by omega
  have hm : m ≠ 0 := by intro h; subst h; simp at *; omega
  obtain ⟨k, rfl⟩ : ∃ k, m = k + 1 := ⟨m - 1, by omega⟩
  have hp2 : 2 ^ (k + 1) = 2 * 2 ^ k := by rw [Nat.pow_succ]; omega
  have hposk : 0 < 2 ^ k := Nat.two_pow_pos k
  have hne2 : ¬ e - 2 ^ (k + 1) = 0 := by omega
  by_cases hL : a % 2 = 0 ∧ a ≠ e
  · have hL2 : (a - 2 ^ (k + 1)) % 2 = 0 ∧ a - 2 ^ (k + 1) ≠ e - 2 ^ (k + 1) := by omega
    have d1 : (a - 2 ^ (k + 1)) / 2 = a / 2 - 2 ^ k := by omega
    have d2 : (e - 2 ^ (k + 1)) / 2 = e / 2 - 2 ^ k := by omega
    cases p with
    | nil =>
      simp only [List.nil_append, climb, if_neg hne, if_neg hne2, if_pos hL]
      rw [if_neg (by omega)]; rfl
    | cons c p =>
      simp only [List.cons_append, climb, if_neg hne, if_neg hne2, if_pos hL, if_pos hL2, d1, d2]
      exact ih k (by omega) (a / 2) (e / 2) _ x p (by omega) (by omega) (by omega)
  · have hL2 : ¬ ((a - 2 ^ (k + 1)) % 2 = 0 ∧ a - 2 ^ (k + 1) ≠ e - 2 ^ (k + 1)) := by omega
    by_cases hodd : a % 2 = 1
    · have d1 : (a - 2 ^ (k + 1)) / 2 = a / 2 - 2 ^ k := by omega
      have d2 : (e - 2 ^ (k + 1)) / 2 = e / 2 - 2 ^ k := by omega
      cases p with
      | nil =>
        simp only [List.nil_append, climb, if_neg hne, if_neg hne2, if_neg hL]
        rw [skip_odd a e hodd, if_neg (by simp only; omega)]; rfl
      | cons c p =>
        simp only [List.cons_append, climb, if_neg hne, if_neg hne2, if_neg hL, if_neg hL2]
        rw [skip_odd a e hodd, skip_odd (a - 2 ^ (k + 1)) _ (by omega)]
        simp only [d1, d2]
        exact ih k (by omega) (a / 2) (e / 2) _ x p (by omega) (by omega) (by omega)
    · have hae : a = e := by omega
      subst hae
      obtain ⟨j, hj, h1, h2, h3, h4, h5⟩ := skip_sub (k + 1) a hlt he2
      obtain ⟨i, rfl⟩ : ∃ i, j = i + 1 := ⟨j - 1, by omega⟩
      have hpi : 2 ^ (i + 1) = 2 * 2 ^ i := by rw [Nat.pow_succ]; omega
      have hposi : 0 < 2 ^ i := Nat.two_pow_pos i
      cases p with
      | nil =>
        simp only [List.nil_append, climb, if_neg hne, if_neg hne2, if_neg hL]
        rw [h1, if_neg (by simp only; omega)]; rfl
      | cons c p =>
        simp only [List.cons_append, climb, if_neg hne, if_neg hne2, if_neg hL, if_neg hL2]
        rw [h1, h2]
        generalize (skip (a - 2 ^ (k + 1)) (a - 2 ^ (k + 1))).1 = s at *
        simp only
        have d1 : s / 2 = (s + 2 ^ (i + 1)) / 2 - 2 ^ i := by omega
        rw [d1]
        exact ih i (by omega) ((s + 2 ^ (i + 1)) / 2) ((s + 2 ^ (i + 1)) / 2) _ x p (by omega) (Nat.le_refl _) (by omega)

/-- both ways lead to the same -/
theorem leads_climb (d h : α) : ∀ (r : List α) (n i : Nat), 1 ≤ n → i < n → climb nd i (n - 1) h r.reverse = if (leadsR nd d h r n i).2 = true then some (leadsR nd d h r n i).1 else none := by
  intro r
  induction r with
  | nil =>
    intro n i hn hi
    by_cases h1 : n = 1
    · subst h1; simp [climb, leadsR]
    · simp [climb, leadsR, h1]; omega
  | cons x r ih =>
    intro n i hn hi
    by_cases h1 : n = 1
    · subst h1
      simp only [leadsR, List.reverse_cons]
      cases hp : r.reverse ++ [x] with
      | nil => simp at hp
      | cons b q => simp [climb]
    · have hl := half_le n (by omega)
      have hu := half_lt n (by omega)
      have hp := half_pos n
      have hps : 2 ^ (Nat.log2 (n - 1) + 1) = 2 * half n := by rw [Nat.pow_succ]; unfold half; omega
      simp only [leadsR, List.reverse_cons, if_neg h1]
      by_cases hk : i < half n
      · rw [if_pos hk, climb_left nd (Nat.log2 (n - 1)) i (n - 1) h x r.reverse hk hl (by rw [hps]; exact hu)]
        have := ih (half n) i hp hk
        unfold half at this ⊢
        rw [this]
        split <;> simp_all
      · rw [if_neg hk, climb_right nd (Nat.log2 (n - 1)) i (n - 1) h x r.reverse (by unfold half at hk; omega) (by omega) (by rw [hps]; exact hu)]
        have := ih (n - half n) (i - half n) (by omega) (by omega)
        rw [show n - half n - 1 = n - 1 - half n by omega] at this
        unfold half at this ⊢
        rw [this]
        split <;> simp_all
end Mvt
