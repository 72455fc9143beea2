/- The reference's Tag; A log of the sponge, the reference's: NewLog, Say, Ask, Clone; The tree, plain: what a path leads to, from its end (the document) and from its beginning (the program); The tree: node, leafHash, bytes.Equal, sized, lists, small; the reference's leaf, node, half, sized; SpongeLogs: what stays of many logs, step by step; mintvaultlaw8.lists, small: lists of strings as lists of bytes; bytes.Clone; lists of owned slices of bytes that lie apart; num.Powers: what it answers; The law's powers; The law NumLaws; The law NumLaws, walked: NumLaws_k1_z_n and its like; The law NumLaws, walked: NumLaws_k1_n_n and its like. -/
import Derived.Test.YtmegaegedlbckaaMgNumLawsProof6
import Derived.Test.YtmegaegedlbckaaMgNumLawsProof2
import Derived.IntWalk
import Derived.Test.YtmegaegedlbckaaMgNumLawsProof4
import Derived.Test.YtmegaegedlbckaaMgNumLawsProof5
namespace Go.Proofs.Ytmegaegedlbckaa
open Go.RowKit Go.Mv Mvp
attribute [local irreducible] permS permP toB turnsK squeeze permN permB spongeB feed frameL framesL

theorem frameL_len (l : List UInt8) : (frameL l).length = 4 + l.length := by unfold frameL; simp [lenB_len]
def sumL (ls : List (List UInt8)) : Nat := (ls.map List.length).foldr (· + ·) 0
theorem sumL_append (a b : List (List UInt8)) : sumL (a ++ b) = sumL a + sumL b := by
  induction a with
  | nil => simp [sumL]
  | cons x a ih => simp only [sumL, List.cons_append, List.map_cons, List.foldr_cons] at *; omega
theorem sumL_one (a : List UInt8) : sumL [a] = a.length := by simp [sumL]
theorem framesL_len (ls : List (List UInt8)) : (framesL ls).length = 4 * ls.length + sumL ls := by
  induction ls with
  | nil => rw [framesL_nil]; rfl
  | cons a b ih => rw [framesL_cons, List.length_append, frameL_len, ih, List.length_cons]; simp only [sumL, List.map_cons, List.foldr_cons]; omega
theorem sumL_take (ls : List (List UInt8)) (j : Nat) : sumL (ls.take j) ≤ sumL ls := by
  have := sumL_append (ls.take j) (ls.drop j)
  rw [List.take_append_drop] at this; omega
theorem sumL_get (ls : List (List UInt8)) (j : Nat) (hj : j < ls.length) : (ls.getD j []).length ≤ sumL ls := by
  have h1 := sumL_append (ls.take j) (ls.drop j)
  rw [List.take_append_drop, List.drop_eq_getElem_cons hj] at h1
  have h2 : sumL (ls[j] :: ls.drop (j + 1)) = ls[j].length + sumL (ls.drop (j + 1)) := by simp only [sumL, List.map_cons, List.foldr_cons]
  have h3 : ls.getD j [] = ls[j] := by simp [List.getD_eq_getElem?_getD, hj]
  rw [h3]; omega

end Go.Proofs.Ytmegaegedlbckaa

/- A log of the sponge, the reference's: NewLog, Say, Ask, Clone. -/
namespace Go.Proofs.Ytmegaegedlbckaa
open Go.RowKit Go.Mv Mvp
attribute [local irreducible] permS permP toB turnsK squeeze permN permB spongeB feed frameL framesL tagL

theorem info_sl : (Try.prog.info? 29).map (fun i => (i.zero, i.size, i.bytes)) = some (some (.slice none 0 0), 1, 24) := by kernel_rfl
theorem info_str : (Try.prog.info? 9).map (fun i => (i.zero, i.size, i.bytes)) = some (some (.string ByteArray.empty), 1, 16) := by kernel_rfl

/-- parts by their values -/
def Parts (w : World) : List Value → List (List UInt8) → Prop
  | [], [] => True
  | v :: vs, l :: ls => PartIs w v l ∧ Parts w vs ls
  | _, _ => False
theorem Parts.len {w : World} : ∀ {vs : List Value} {ls : List (List UInt8)}, Parts w vs ls → vs.length = ls.length
  | [], [], _ => rfl
  | _ :: _, _ :: _, h => by simp only [List.length_cons]; rw [Parts.len h.2]
  | [], _ :: _, h => h.elim
  | _ :: _, [], h => h.elim
theorem Parts.get {w : World} : ∀ {vs : List Value} {ls : List (List UInt8)}, Parts w vs ls → ∀ (i : Nat) (v : Value), vs[i]? = some v → ∃ l : List UInt8, ls[i]? = some l ∧ PartIs w v l
  | [], [], _, i, v, h => by simp at h
  | x :: vs, l :: ls, h, 0, v, hv => by simp only [List.getElem?_cons_zero, Option.some.injEq] at hv; subst hv; exact ⟨l, rfl, h.1⟩
  | x :: vs, l :: ls, h, i + 1, v, hv => by simp only [List.getElem?_cons_succ] at hv ⊢; exact Parts.get h.2 i v hv
  | [], _ :: _, h, _, _, _ => h.elim
  | _ :: _, [], h, _, _, _ => h.elim
theorem Parts.at {w : World} {g : Nat} {T : TypeId} {vs : List Value} {ls : List (List UInt8)} (h : Parts w vs ls) (hg : Has w g vs T) : PartsAt w (some ⟨g, 0, none⟩) ls :=
  ⟨vs, by have := Rd.whole hg; rwa [h.len] at this, h.get⟩
theorem Parts.cells {w : World} : ∀ {vs : List Value} {ls : List (List UInt8)}, Parts w vs ls → ∀ v ∈ vs, v.cells = #[v]
  | [], _, _, v, h => by simp at h
  | x :: vs, l :: ls, h, v, hv => by
    rcases List.mem_cons.1 hv with rfl | hv
    · obtain ⟨a, n, c, rfl, _⟩ := h.1; rfl
    · exact Parts.cells h.2 v hv
  | _ :: _, [], h, _, _ => h.elim
theorem own_part {w : World} {base n : Nat} {T : TypeId} {v : Value} {l : List UInt8} (h : Own w base T 1 v n (bs l)) (hn : n ≤ 1000000) : PartIs w v l := by
  have h0 := h
  obtain ⟨a, c, rfl, hc, hr, -⟩ := h.form
  rw [Nat.mul_one] at hr
  refine ⟨a, n, c, rfl, hc, hn, hr, ?_⟩
  intro x hx
  exact (h0.lt (by rw [hx]; rfl)).2

def kLog : List UInt8 := [108, 111, 103]
def kSay : List UInt8 := [115, 97, 121]
def kAsk : List UInt8 := [97, 115, 107]
def kAsked : List UInt8 := [97, 115, 107, 101, 100]
theorem kLog_eq : (⟨#[108, 111, 103]⟩ : ByteArray) = mkS kLog := rfl
theorem kSay_eq : (⟨#[115, 97, 121]⟩ : ByteArray) = mkS kSay := rfl
theorem kAsk_eq : (⟨#[97, 115, 107]⟩ : ByteArray) = mkS kAsk := rfl
theorem kAsked_eq : (⟨#[97, 115, 107, 101, 100]⟩ : ByteArray) = mkS kAsked := rfl

theorem tagL_len (k : List UInt8) (ls : List (List UInt8)) : (tagL k ls).length = 32 := by unfold tagL; exact spongeB_len _ _ _
theorem one_store {w w' : World} (h : Fr Nob w w') (g : Nat) (v : Value) : Fr (One g) w (w'.setCell ⟨g, 0, none⟩ v) := (h.mono (fun _ _ t => t.elim)).setCell g 0 none v (fun _ => rfl)

/-! The reference's -/
end Go.Proofs.Ytmegaegedlbckaa

/- The tree, plain: what a path leads to, from its end (the document) and from its beginning (the program). -/
namespace Mvt
variable {α : Type} (nd : α → α → α)
/-- the greatest power of two below n -/
def half (n : Nat) : Nat := 2 ^ Nat.log2 (n - 1)
theorem half_le (n : Nat) (h : 2 ≤ n) : half n ≤ n - 1 := Nat.log2_self_le (by omega)
theorem half_lt (n : Nat) (_h : 2 ≤ n) : n - 1 < 2 * half n := by
  have := Nat.lt_log2_self (n := n - 1)
  rw [Nat.pow_succ] at this
  unfold half; omega
theorem half_pos (n : Nat) : 0 < half n := Nat.two_pow_pos _
/-- what a path leads to: its entries in reverse, how many leaves, which one -/
def leadsR (d : α) (h : α) : List α → Nat → Nat → α × Bool
  | [], n, _ => if n = 1 then (h, true) else (d, false)
  | e :: r, n, i => if n = 1 then (h, false) else
      if i < half n then (nd (leadsR d h r (half n) i).1 e, (leadsR d h r (half n) i).2)
      else (nd e (leadsR d h r (n - half n) (i - half n)).1, (leadsR d h r (n - half n) (i - half n)).2)
/-- up, as far as nothing stands beside -/
def skip (a e : Nat) : Nat × Nat := if a % 2 = 0 ∧ 0 < a then skip (a / 2) (e / 2) else (a, e)
termination_by a
decreasing_by omega
/-- the program's way -/
def climb : Nat → Nat → α → List α → Option α
  | _, e, h, [] => if e = 0 then some h else none
  | a, e, h, b :: p => if e = 0 then none else
      if a % 2 = 0 ∧ a ≠ e then climb (a / 2) (e / 2) (nd h b) p
      else climb ((skip a e).1 / 2) ((skip a e).2 / 2) (nd b h) p
theorem skip_odd (a e : Nat) (h : a % 2 = 1) : skip a e = (a, e) := by rw [skip, if_neg (by omega)]
theorem skip_even (a e : Nat) (h : a % 2 = 0) (h0 : 0 < a) : skip a e = skip (a / 2) (e / 2) := by rw [skip, if_pos ⟨h, h0⟩]

/-- the left part: it is whole -/
theorem climb_left (m : Nat) : ∀ (a e : Nat) (h x : α) (p : List α), a < 2 ^ m → 2 ^ m ≤ e → e < 2 ^ (m + 1) → climb nd a e h (p ++ [x]) = (climb nd a (2 ^ m - 1) h p).map fun y => nd y x := by
  induction m with
  | zero =>
    intro a e h x p ha he he2
    have e1 : e = 1 := by simp at he he2; omega
    have a0 : a = 0 := by simpa using ha
    subst e1 a0
    cases p with
    | nil => simp [climb]
    | cons c p =>
      have : (p ++ [x]) ≠ [] := by simp
      cases hp : p ++ [x] with
      | nil => exact absurd hp this
      | cons b q => simp [climb, hp]
  | succ m ih =>
    intro a e h x p ha he he2
    have hp2 : 2 ^ (m + 1) = 2 * 2 ^ m := by rw [Nat.pow_succ]; omega
    have hp3 : 2 ^ (m + 1 + 1) = 2 * 2 ^ (m + 1) := by rw [Nat.pow_succ]; omega
    have hpos : 0 < 2 ^ m := Nat.two_pow_pos m
    have hne : ¬ e = 0 := by omega
    have hne2 : ¬ 2 ^ (m + 1) - 1 = 0 := by omega
    have hdiv : (2 ^ (m + 1) - 1) / 2 = 2 ^ m - 1 := by omega
    cases p with
    | nil =>
      have h1 : climb nd a e h ([] ++ [x]) = none := by
        simp only [List.nil_append, climb, if_neg hne]
        by_cases hev : a % 2 = 0 ∧ a ≠ e
        · rw [if_pos hev, if_neg (by omega)]
        · have hod : a % 2 = 1 := by omega
          rw [if_neg hev, skip_odd a e hod, if_neg (by simp only; omega)]
      rw [h1]
      simp [climb, hne2]
    | cons c p =>
      simp only [List.cons_append, climb, if_neg hne, if_neg hne2]
      by_cases hev : a % 2 = 0
      · rw [if_pos ⟨hev, by omega⟩, if_pos ⟨hev, by omega⟩, hdiv]
        exact ih (a / 2) (e / 2) _ x p (by omega) (by omega) (by omega)
      · rw [if_neg (by omega), if_neg (by omega), skip_odd a e (by omega), skip_odd a _ (by omega), hdiv]
        exact ih (a / 2) (e / 2) _ x p (by omega) (by omega) (by omega)

/-- the right part, where nothing is skipped or both are -/
theorem skip_sub (m : Nat) : ∀ (a : Nat), 2 ^ m < a → a < 2 ^ (m + 1) → ∃ j, j ≤ m ∧ (skip a a) = ((skip (a - 2 ^ m) (a - 2 ^ m)).1 + 2 ^ j, (skip (a - 2 ^ m) (a - 2 ^ m)).1 + 2 ^ j) ∧ (skip (a - 2 ^ m) (a - 2 ^ m)).2 = (skip (a - 2 ^ m) (a - 2 ^ m)).1 ∧ (skip (a - 2 ^ m) (a - 2 ^ m)).1 % 2 = 1 ∧ (skip (a - 2 ^ m) (a - 2 ^ m)).1 < 2 ^ j ∧ 1 ≤ j := by
  induction m with
  | zero => intro a h1 h2; simp at h1 h2; omega
  | succ m ih =>
    intro a h1 h2
    have hp2 : 2 ^ (m + 1) = 2 * 2 ^ m := by rw [Nat.pow_succ]; omega
    have hp3 : 2 ^ (m + 1 + 1) = 2 * 2 ^ (m + 1) := by rw [Nat.pow_succ]; omega
    by_cases hev : a % 2 = 0
    · have hs1 := skip_even a a hev (by omega)
      have hs2 := skip_even (a - 2 ^ (m + 1)) (a - 2 ^ (m + 1)) (by omega) (by omega)
      have hd : (a - 2 ^ (m + 1)) / 2 = a / 2 - 2 ^ m := by omega
      rw [hs1, hs2, hd]
      obtain ⟨j, h3, h4⟩ := ih (a / 2) (by omega) (by omega)
      exact ⟨j, by omega, h4⟩
    · rw [skip_odd a a (by omega), skip_odd _ _ (by omega)]
      exact ⟨m + 1, Nat.le_refl _, by simp only; congr <;> omega, rfl, by simp only; omega, by simp only; omega, by omega⟩

theorem climb_right (m : Nat) : ∀ (a e : Nat) (h x : α) (p : List α), 2 ^ m ≤ a → a ≤ e → e < 2 ^ (m + 1) → climb nd a e h (p ++ [x]) = (climb nd (a - 2 ^ m) (e - 2 ^ m) h p).map fun y => nd x y := by
  induction m using Nat.strongRecOn with
  | _ m ih =>
  intro a e h x p ha he he2
  have hpos : 0 < 2 ^ m := Nat.two_pow_pos m
  have hp1 : 2 ^ (m + 1) = 2 * 2 ^ m := by rw [Nat.pow_succ]; omega
  have hne : ¬ e = 0 := by omega
  -- at the very beginning of the right part, alone
  by_cases h0 : e = 2 ^ m
  · have ha0 : a = 2 ^ m := by omega
    subst h0 ha0
    have hsk : ∀ k, skip (2 ^ k) (2 ^ k) = (1, 1) := by
      intro k
      induction k with
      | zero => rw [skip_odd _ _ (by simp)]
      | succ k ih2 =>
        have : 2 ^ (k + 1) / 2 = 2 ^ k := by rw [Nat.pow_succ]; omega
        rw [skip_even _ _ (by rw [Nat.pow_succ]; omega) (Nat.two_pow_pos _), this, ih2]
    cases p with
    | nil =>
      simp only [List.nil_append, climb, if_neg hne]
      rw [if_neg (by omega), hsk m]
      simp
    | cons c p =>
      simp only [List.cons_append, climb, if_neg hne]
      rw [if_neg (by omega), hsk m]
      cases hp : p ++ [x] with
      | nil => simp at hp
      | cons b q => simp [climb]
  have hlt : 2 ^ m < e := by omega
  have hm : m ≠ 0 := by intro h; subst h; simp at *; omega
  obtain ⟨k, rfl⟩ : ∃ k, m = k + 1 := ⟨m - 1, by omega⟩
  have hp2 : 2 ^ (k + 1) = 2 * 2 ^ k := by rw [Nat.pow_succ]; omega
  have hposk : 0 < 2 ^ k := Nat.two_pow_pos k
  have hne2 : ¬ e - 2 ^ (k + 1) = 0 := by omega
  by_cases hL : a % 2 = 0 ∧ a ≠ e
  · have hL2 : (a - 2 ^ (k + 1)) % 2 = 0 ∧ a - 2 ^ (k + 1) ≠ e - 2 ^ (k + 1) := by omega
    have d1 : (a - 2 ^ (k + 1)) / 2 = a / 2 - 2 ^ k := by omega
    have d2 : (e - 2 ^ (k + 1)) / 2 = e / 2 - 2 ^ k := by omega
    cases p with
    | nil =>
      simp only [List.nil_append, climb, if_neg hne, if_neg hne2, if_pos hL]
      rw [if_neg (by omega)]; rfl
    | cons c p =>
      simp only [List.cons_append, climb, if_neg hne, if_neg hne2, if_pos hL, if_pos hL2, d1, d2]
      exact ih k (by omega) (a / 2) (e / 2) _ x p (by omega) (by omega) (by omega)
  · have hL2 : ¬ ((a - 2 ^ (k + 1)) % 2 = 0 ∧ a - 2 ^ (k + 1) ≠ e - 2 ^ (k + 1)) := by omega
    by_cases hodd : a % 2 = 1
    · have d1 : (a - 2 ^ (k + 1)) / 2 = a / 2 - 2 ^ k := by omega
      have d2 : (e - 2 ^ (k + 1)) / 2 = e / 2 - 2 ^ k := by omega
      cases p with
      | nil =>
        simp only [List.nil_append, climb, if_neg hne, if_neg hne2, if_neg hL]
        rw [skip_odd a e hodd, if_neg (by simp only; omega)]; rfl
      | cons c p =>
        simp only [List.cons_append, climb, if_neg hne, if_neg hne2, if_neg hL, if_neg hL2]
        rw [skip_odd a e hodd, skip_odd (a - 2 ^ (k + 1)) _ (by omega)]
        simp only [d1, d2]
        exact ih k (by omega) (a / 2) (e / 2) _ x p (by omega) (by omega) (by omega)
    · have hae : a = e := by omega
      subst hae
      obtain ⟨j, hj, h1, h2, h3, h4, h5⟩ := skip_sub (k + 1) a hlt he2
      obtain ⟨i, rfl⟩ : ∃ i, j = i + 1 := ⟨j - 1, by omega⟩
      have hpi : 2 ^ (i + 1) = 2 * 2 ^ i := by rw [Nat.pow_succ]; omega
      have hposi : 0 < 2 ^ i := Nat.two_pow_pos i
      cases p with
      | nil =>
        simp only [List.nil_append, climb, if_neg hne, if_neg hne2, if_neg hL]
        rw [h1, if_neg (by simp only; omega)]; rfl
      | cons c p =>
        simp only [List.cons_append, climb, if_neg hne, if_neg hne2, if_neg hL, if_neg hL2]
        rw [h1, h2]
        generalize (skip (a - 2 ^ (k + 1)) (a - 2 ^ (k + 1))).1 = s at *
        simp only
        have d1 : s / 2 = (s + 2 ^ (i + 1)) / 2 - 2 ^ i := by omega
        rw [d1]
        exact ih i (by omega) ((s + 2 ^ (i + 1)) / 2) ((s + 2 ^ (i + 1)) / 2) _ x p (by omega) (Nat.le_refl _) (by omega)

/-- both ways lead to the same -/
theorem leads_climb (d h : α) : ∀ (r : List α) (n i : Nat), 1 ≤ n → i < n → climb nd i (n - 1) h r.reverse = if (leadsR nd d h r n i).2 = true then some (leadsR nd d h r n i).1 else none := by
  intro r
  induction r with
  | nil =>
    intro n i hn hi
    by_cases h1 : n = 1
    · subst h1; simp [climb, leadsR]
    · simp [climb, leadsR, h1]; omega
  | cons x r ih =>
    intro n i hn hi
    by_cases h1 : n = 1
    · subst h1
      simp only [leadsR, List.reverse_cons]
      cases hp : r.reverse ++ [x] with
      | nil => simp at hp
      | cons b q => simp [climb]
    · have hl := half_le n (by omega)
      have hu := half_lt n (by omega)
      have hp := half_pos n
      have hps : 2 ^ (Nat.log2 (n - 1) + 1) = 2 * half n := by rw [Nat.pow_succ]; unfold half; omega
      simp only [leadsR, List.reverse_cons, if_neg h1]
      by_cases hk : i < half n
      · rw [if_pos hk, climb_left nd (Nat.log2 (n - 1)) i (n - 1) h x r.reverse hk hl (by rw [hps]; exact hu)]
        have := ih (half n) i hp hk
        unfold half at this ⊢
        rw [this]
        split <;> simp_all
      · rw [if_neg hk, climb_right nd (Nat.log2 (n - 1)) i (n - 1) h x r.reverse (by unfold half at hk; omega) (by omega) (by rw [hps]; exact hu)]
        have := ih (n - half n) (i - half n) (by omega) (by omega)
        rw [show n - half n - 1 = n - 1 - half n by omega] at this
        unfold half at this ⊢
        rw [this]
        split <;> simp_all
end Mvt

/- The tree: node, leafHash, bytes.Equal, sized, lists, small; the reference's leaf, node, half, sized. -/
namespace Go.Proofs.Ytmegaegedlbckaa
open Go.RowKit Go.Mv Mvp Mvt
attribute [local irreducible] permS permP toB turnsK squeeze permN permB spongeB feed frameL framesL tagL

def kLeaf : List UInt8 := [108, 101, 97, 102]
def kNode : List UInt8 := [110, 111, 100, 101]
def kNone : List UInt8 := [110, 111, 110, 101]
theorem kLeaf_eq : (⟨#[108, 101, 97, 102]⟩ : ByteArray) = mkS kLeaf := rfl
theorem kNode_eq : (⟨#[110, 111, 100, 101]⟩ : ByteArray) = mkS kNode := rfl
def leafL (l : List UInt8) : List UInt8 := tagL kLeaf [l]
def nodeL (x y : List UInt8) : List UInt8 := tagL kNode [x, y]
theorem leafL_len (l : List UInt8) : (leafL l).length = 32 := tagL_len _ _
theorem nodeL_len (x y : List UInt8) : (nodeL x y).length = 32 := tagL_len _ _

/-- each has 32 bytes -/
def sz32 (ls : List (List UInt8)) : Bool := ls.all fun l => l.length == 32
theorem sz32_take (ls : List (List UInt8)) (j : Nat) (hj : j < ls.length) : sz32 (ls.take (j + 1)) = (sz32 (ls.take j) && ((ls.getD j []).length == 32)) := by
  unfold sz32
  rw [List.take_succ_eq_append_getElem hj, List.all_append]
  simp [List.getD_eq_getElem?_getD, hj]
theorem sz32_not (ls : List (List UInt8)) (j : Nat) (hj : j < ls.length) (h : (ls.getD j []).length ≠ 32) : sz32 ls = false := by
  unfold sz32
  rw [List.all_eq_false]
  exact ⟨ls[j], List.getElem_mem _, by simpa [List.getD_eq_getElem?_getD, hj] using h⟩
theorem sz32_get (ls : List (List UInt8)) (h : sz32 ls = true) (x : List UInt8) (hx : x ∈ ls) : x.length = 32 := by
  simpa using List.all_eq_true.1 h x hx

end Go.Proofs.Ytmegaegedlbckaa

/- SpongeLogs: what stays of many logs, step by step. -/
namespace Go.Mv
open Go.RowKit
theorem Has.ne {w : World} {g g' : Nat} {L L' : List Value} {T T' : TypeId} (h : Has w g L T) (h' : Has w g' L' T') (hT : T ≠ T') : g ≠ g' := by
  rintro rfl
  obtain ⟨_, _, h1, _⟩ := h
  obtain ⟨_, _, h2, _⟩ := h'
  rw [h1] at h2
  simp at h2
  exact hT h2.2.1
theorem Own.ne2 {w : World} {base base' sz sz' n n' : Nat} {T T' : TypeId} {v v' : Value} {L L' : List Value} (h : Own w base T sz v n L) (h' : Own w base' T' sz' v' n' L') (hT : T ≠ T') (k : Nat) (hk : OwnB v k) : ¬ OwnB v' k := by
  obtain ⟨_, ⟨rfl, _⟩ | ⟨g, o, cap, B, rfl, _, hg, _⟩⟩ := h'
  · intro t; cases t
  · intro t
    have e : g = k := by simpa [OwnB, Value.ownBlock] using t
    subst e
    exact h.ne hg hT hk
end Go.Mv
namespace Go.Proofs.Ytmegaegedlbckaa
open Go.RowKit Go.Mv Mvp
attribute [local irreducible] permS permP toB turnsK squeeze permN permB spongeB feed frameL framesL tagL

abbrev Tri : Type := Nat × Nat × List UInt8
def kptr (T : List Tri) : List Value := T.map fun t => .pointer (some ⟨t.1, 0, none⟩)
def wptr (T : List Tri) : List Value := T.map fun t => .pointer (some ⟨t.2.1, 0, none⟩)

variable {w w' : World} {base ga gb : Nat} {sa sb : List UInt8} {T : List Tri} {vk vw : Value} {Lk Lw : List Value}
theorem nodup_ne {α : Type} {l : List α} (h : l.Nodup) {i j : Nat} {x y : α} (hi : l[i]? = some x) (hj : l[j]? = some y) (hne : i ≠ j) : x ≠ y := by
  intro e
  subst e
  have hi' := (List.getElem?_eq_some_iff.1 hi)
  have hj' := (List.getElem?_eq_some_iff.1 hj)
  obtain ⟨a, ha⟩ := hi'
  obtain ⟨b, hb⟩ := hj'
  rcases Nat.lt_or_gt_of_ne hne with k | k
  · exact (List.pairwise_iff_getElem.1 h) i j a b k (ha.trans hb.symm)
  · exact (List.pairwise_iff_getElem.1 h) j i b a k (hb.trans ha.symm)
end Go.Proofs.Ytmegaegedlbckaa

/- mintvaultlaw8.lists, small: lists of strings as lists of bytes. -/
namespace Go.Proofs.Ytmegaegedlbckaa
open Go.RowKit Go.Mv Mvp Mvt
attribute [local irreducible] permS permP toB turnsK squeeze permN permB spongeB feed frameL framesL tagL

/-- slices of bytes of the call's own -/
def POwn (w : World) (base : Nat) : List Value → List (List UInt8) → Prop
  | [], [] => True
  | v :: vs, l :: ls => Own w base 5 1 v l.length (bs l) ∧ POwn w base vs ls
  | _, _ => False
theorem POwn.len {w : World} {base : Nat} : ∀ {vs : List Value} {ls : List (List UInt8)}, POwn w base vs ls → vs.length = ls.length
  | [], [], _ => rfl
  | _ :: _, _ :: _, h => by simp only [List.length_cons]; rw [POwn.len h.2]
  | [], _ :: _, h => h.elim
  | _ :: _, [], h => h.elim
theorem POwn.keep {w w' : World} {base : Nat} {S : Nat → Prop} (hf : Fr S w w') : ∀ {vs : List Value} {ls : List (List UInt8)}, POwn w base vs ls → (∀ v n l, Own w base 5 1 v n (bs l) → ∀ k, OwnB v k → ¬ S k) → POwn w' base vs ls
  | [], [], _, _ => trivial
  | _ :: _, _ :: _, h, hs => ⟨h.1.keep hf (hs _ _ _ h.1), POwn.keep hf h.2 hs⟩
  | [], _ :: _, h, _ => h.elim
  | _ :: _, [], h, _ => h.elim
theorem POwn.still {w w' : World} {base : Nat} {vs : List Value} {ls : List (List UInt8)} (h : POwn w base vs ls) (hf : Fr Nob w w') : POwn w' base vs ls := POwn.keep hf h (fun _ _ _ _ _ _ t => t)
theorem POwn.app {w w' : World} {base base' sz n : Nat} {vs : List Value} {ls : List (List UInt8)} (h : POwn w base vs ls) {q : Value} {T : TypeId} {L : List Value} (hq : Own w base' T sz q n L) (hT : 5 ≠ T) (hf : Fr (OwnB q) w w') : POwn w' base vs ls :=
  POwn.keep hf h (fun _ _ _ ho k hk hk' => ho.ne2 hq hT k hk hk')
theorem POwn.snoc {w : World} {base : Nat} {v : Value} {l : List UInt8} (hv : Own w base 5 1 v l.length (bs l)) : ∀ {vs : List Value} {ls : List (List UInt8)}, POwn w base vs ls → POwn w base (vs ++ [v]) (ls ++ [l])
  | [], [], _ => ⟨hv, trivial⟩
  | _ :: _, _ :: _, h => ⟨h.1, POwn.snoc hv h.2⟩
  | [], _ :: _, h => h.elim
  | _ :: _, [], h => h.elim
theorem POwn.parts {w : World} {base : Nat} : ∀ {vs : List Value} {ls : List (List UInt8)}, POwn w base vs ls → (∀ x ∈ ls, x.length ≤ 1000000) → Parts w vs ls
  | [], [], _, _ => trivial
  | _ :: _, _ :: _, h, hx => ⟨own_part h.1 (hx _ (by simp)), POwn.parts h.2 (fun x hxm => hx x (by simp [hxm]))⟩
  | [], _ :: _, h, _ => h.elim
  | _ :: _, [], h, _ => h.elim
/-- a list of lists of bytes, all of the call's own -/
def LOwn (w : World) (base : Nat) (v : Value) (ls : List (List UInt8)) : Prop := ∃ vs, Own w base 29 1 v ls.length vs ∧ POwn w base vs ls
theorem LOwn.still {w w' : World} {base : Nat} {v : Value} {ls : List (List UInt8)} (h : LOwn w base v ls) (hf : Fr Nob w w') : LOwn w' base v ls := by
  obtain ⟨vs, h1, h2⟩ := h; exact ⟨vs, h1.still hf, h2.still hf⟩
theorem LOwn.parts {w : World} {base : Nat} {v : Value} {ls : List (List UInt8)} (h : LOwn w base v ls) (hx : ∀ x ∈ ls, x.length ≤ 1000000) : ∃ a c, v = .slice a ls.length c ∧ ls.length ≤ c ∧ PartsAt w a ls := by
  obtain ⟨vs, h1, h2⟩ := h
  obtain ⟨a, c, rfl, hc, hr, -⟩ := h1.form
  rw [Nat.mul_one] at hr
  exact ⟨a, c, rfl, hc, vs, hr, (h2.parts hx).get⟩

theorem sumL_le2 (ls : List (List UInt8)) (B : Nat) (h : ∀ x ∈ ls, x.length ≤ B) : sumL ls ≤ ls.length * B := by
  induction ls with
  | nil => simp [sumL]
  | cons a l ih =>
    have h1 := ih (fun x hx => h x (by simp [hx]))
    have h2 := h a (by simp)
    have h3 : sumL (a :: l) = a.length + sumL l := by simp only [sumL, List.map_cons, List.foldr_cons]
    rw [h3, List.length_cons, Nat.succ_mul]; omega

end Go.Proofs.Ytmegaegedlbckaa

/- bytes.Clone; lists of owned slices of bytes that lie apart. -/
namespace Go.Proofs.Ytmegaegedlbckaa
open Go.RowKit Go.Mv Mvp Mvt
attribute [local irreducible] permS permP toB turnsK squeeze permN permB spongeB feed frameL framesL tagL

theorem info_u8c : (Try.prog.info? 5).map (fun i => (i.zero, i.size, i.bytes)) = some (some (.int .u8 0), 1, 1) := by kernel_rfl

/-- no two of them share a block -/
def Sep (vs : List Value) : Prop := vs.Pairwise fun a b => ∀ k, OwnB a k → ¬ OwnB b k
theorem Sep.nil : Sep [] := List.Pairwise.nil
theorem POwn.get {w : World} {base : Nat} : ∀ {vs : List Value} {ls : List (List UInt8)}, POwn w base vs ls → ∀ (i : Nat) (v : Value), vs[i]? = some v → ∃ l, ls[i]? = some l ∧ Own w base 5 1 v l.length (bs l)
  | [], [], _, i, v, hv => by simp at hv
  | a :: vs, l :: ls, h, 0, v, hv => by simp at hv; subst hv; exact ⟨l, rfl, h.1⟩
  | a :: vs, l :: ls, h, i + 1, v, hv => by simp at hv; obtain ⟨l', h1, h2⟩ := POwn.get h.2 i v hv; exact ⟨l', by simpa using h1, h2⟩
  | [], _ :: _, h, _, _, _ => h.elim
  | _ :: _, [], h, _, _, _ => h.elim
theorem POwn.mem {w : World} {base : Nat} {vs : List Value} {ls : List (List UInt8)} (h : POwn w base vs ls) {v : Value} (hv : v ∈ vs) : ∃ l, l ∈ ls ∧ Own w base 5 1 v l.length (bs l) := by
  obtain ⟨i, hi⟩ := List.getElem?_of_mem hv
  obtain ⟨l, h1, h2⟩ := h.get i v hi
  exact ⟨l, List.mem_of_getElem? h1, h2⟩
theorem Sep.snoc {w w' : World} {base : Nat} {vs : List Value} {ls : List (List UInt8)} (h : Sep vs) (hp : POwn w base vs ls) {v : Value} {n : Nat} {L : List Value} {T : TypeId} (hv : Own w' w.heap.size T 1 v n L) : Sep (vs ++ [v]) := by
  unfold Sep at *
  rw [List.pairwise_append]
  refine ⟨h, by simp, fun a ha b hb k hk hk' => ?_⟩
  simp only [List.mem_singleton] at hb
  subst hb
  obtain ⟨l, _, ho⟩ := hp.mem ha
  have h1 := (ho.lt hk).2
  have h2 := (hv.lt hk').1
  omega
theorem POwn.mono {w : World} {base base' : Nat} (hb : base' ≤ base) : ∀ {vs : List Value} {ls : List (List UInt8)}, POwn w base vs ls → POwn w base' vs ls
  | [], [], _ => trivial
  | _ :: _, _ :: _, h => ⟨h.1.mono hb, POwn.mono hb h.2⟩
  | [], _ :: _, h => h.elim
  | _ :: _, [], h => h.elim
/-- a slice of slices of bytes, all of the call's own, apart -/
def SOwn (w : World) (base : Nat) (v : Value) (ls : List (List UInt8)) : Prop := ∃ vs, Own w base 29 1 v ls.length vs ∧ POwn w base vs ls ∧ Sep vs
theorem SOwn.nil (w : World) (base : Nat) : SOwn w base (.slice none 0 0) [] := ⟨[], Own.nil _ _ _ _, trivial, Sep.nil⟩
theorem SOwn.still {w w' : World} {base : Nat} {v : Value} {ls : List (List UInt8)} (h : SOwn w base v ls) (hf : Fr Nob w w') : SOwn w' base v ls := by
  obtain ⟨vs, h1, h2, h3⟩ := h; exact ⟨vs, h1.still hf, h2.still hf, h3⟩
theorem SOwn.lown {w : World} {base : Nat} {v : Value} {ls : List (List UInt8)} (h : SOwn w base v ls) : LOwn w base v ls := by
  obtain ⟨vs, h1, h2, h3⟩ := h; exact ⟨vs, h1, h2⟩
end Go.Proofs.Ytmegaegedlbckaa

/- num.Powers: what it answers. -/
namespace Mvp
/-- the first powers, as they are handed out -/
def powsL (M x : Nat) : Nat → List (List UInt8)
  | 0 => []
  | i + 1 => powsL M x i ++ [be32 (x ^ i % M)]
theorem powsL_len (M x n : Nat) : (powsL M x n).length = n := by
  induction n with
  | zero => rfl
  | succ n ih => rw [powsL, List.length_append, ih]; rfl
theorem powsL_zero (M x : Nat) : powsL M x 0 = [] := rfl
theorem powsL_succ (M x i : Nat) : powsL M x i ++ [be32 (x ^ i % M)] = powsL M x (i + 1) := rfl
def lenV : Go.Value → Nat
  | .slice _ n _ => n
  | _ => 0
end Mvp
namespace Go.Proofs.Ytmegaegedlbckaa
open Go.RowKit Go.Mv Mvp
theorem SOwn.mono {w : World} {base base' : Nat} {v : Value} {ls : List (List UInt8)} (h : SOwn w base v ls) (hb : base' ≤ base) : SOwn w base' v ls := by
  obtain ⟨vs, h1, h2, h3⟩ := h; exact ⟨vs, h1.mono hb, h2.mono hb, h3⟩
/-- a fresh slice of bytes is appended -/
theorem SOwn.snocF {w w1 w2 w3 : World} {base : Nat} {vs : List Value} {ls : List (List UInt8)} {o v o' : Value} {l : List UInt8}
    (hown : Own w base 29 1 o ls.length vs) (hpo : POwn w base vs ls) (hsep : Sep vs) (hb : base ≤ w.heap.size)
    (hv : Own w1 w.heap.size 5 1 v l.length (bs l)) (hf1 : Fr Nob w w1) (hf2 : Fr Nob w1 w2)
    (ho' : Own w3 base 29 1 o' (ls.length + 1) (vs ++ [v])) (hf3 : Fr (OwnB o) w2 w3) : SOwn w3 base o' (ls ++ [l]) := by
  have h12 := hf1.then hf2
  have hv2 := (hv.still hf2).mono hb
  have ho2 := hown.still h12
  refine ⟨vs ++ [v], by simpa using ho', POwn.snoc (hv2.keep hf3 (fun k hk hk' => hv2.ne2 ho2 (by decide) k hk hk')) ((hpo.still h12).app ho2 (by decide) hf3), hsep.snoc hpo hv⟩
attribute [local irreducible] limbs lw mix cw cSub cAdd cMul foldC valFrom beN laid be32 powm montT mstep elN mdL elCells numsB numB powsL

set_option maxHeartbeats 8000000 in
set_option maxRecDepth 1000000 in
theorem NPowers_bad (k : Int) (m : Md) (hk : KindOf k m) (va : Value) (la : List UInt8) (n : Nat) (w : World) (hpa : BPart w va la) (hn : n ≤ 256) (hg : numsB m [la] = false) :
    Calls Try.prog 20 #[.int .i64 k, va, .int .i64 (n : Int)] w fun e w' => e = .returned (.tuple #[.slice none 0 0, .int .i64 3]) ∧ Fr Nob w w' := by
  have HA1 := Lib.hid (BPart.one hpa)
  have HK := Lib.hid hk
  have HP := Lib.hid (BParts.one hpa)
  have HG := Lib.hid hg
  clear hk hpa hg
  have hn0 : ¬ ((n : Int) < 0) := by omega
  have hn1 : ¬ ((256 : Int) < (n : Int)) := by omega
  go_enter Try.func20, Try.ntmps20
  go_wp2_with fail
  refine (OfK HK.out _).mono ?_
  rintro e w1 ⟨gp, rfl, hgg, hm, hf⟩
  clear hgg
  have HM := Lib.hid hm
  have HF := Lib.hid hf
  clear hm hf
  go_wp2_with (with_reducible refine wl_stop (o := ⟨some 31, _, _, _, _, _⟩) ?_)
  unfold Stop
  refine wl_slit (vs := [va]) (hgd := rfl) (ho := rfl) (hu := Try.underlying47) (hi0 := info_bsl) (hp := by rfl) (hv := fun v hv => by simp at hv; subst hv; exact HA1.out) (hk := by rfl) (hz := by rfl) (h := ?_)
  intro w2 hg2 hf2 hz2
  clear hz2
  generalize w1.heap.size = gl at *
  have HM2 := Lib.hid (HM.out.keep hf2 id)
  have HF2 := Lib.hid (HF.out.then hf2)
  have HRD := Lib.hid (show Rd w2 (some ⟨gl, 0, none⟩) 1 [va] from Rd.whole hg2)
  clear hg2 hf2 HM HF
  go_wp2_with fail
  refine (read_any m gp _ 1 1 [va] [la] _ HK.out.ok HM2.out HRD.out (HP.out.still HF2.out) (by decide)).mono ?_
  rintro e w3 ⟨-, hbad, hf3⟩
  obtain rfl := hbad HG.out
  have HF3 := Lib.hid (HF2.out.then hf3)
  clear hbad hf3
  go_wp2_with fail
  go_ret2
  exact ⟨rfl, HF3.out⟩

set_option maxHeartbeats 8000000 in
set_option maxRecDepth 1000000 in
theorem NPowers_x (k : Int) (va vn : Value) (w : World) (h0 : (k == 0) = false) (h1 : (k == 1) = false) :
    Calls Try.prog 20 #[.int .i64 k, va, vn] w fun e w' => e = .returned (.tuple #[.slice none 0 0, .int .i64 2]) ∧ w = w' := by
  have H0 := Lib.hid h0
  have H1 := Lib.hid h1
  clear h0 h1
  go_enter Try.func20, Try.ntmps20
  go_wp2_with fail
  refine (Of2 k _ H0.out H1.out).mono ?_
  rintro e w1 ⟨rfl, rfl⟩
  go_wp2_with fail
  go_ret2
  exact ⟨rfl, rfl⟩

set_option maxHeartbeats 8000000 in
set_option maxRecDepth 1000000 in
theorem NPowers_neg (k : Int) (m : Md) (hk : KindOf k m) (va : Value) (n : Int) (w : World) (hn : n < 0) :
    Calls Try.prog 20 #[.int .i64 k, va, .int .i64 n] w fun e w' => e = .returned (.tuple #[.slice none 0 0, .int .i64 1]) ∧ Fr Nob w w' := by
  have HK := Lib.hid hk
  clear hk
  have hn0 : n < 0 := hn
  go_enter Try.func20, Try.ntmps20
  go_wp2_with fail
  refine (OfK HK.out _).mono ?_
  rintro e w1 ⟨gp, rfl, hgg, hm, hf⟩
  clear hgg
  have HM := Lib.hid hm
  have HF := Lib.hid hf
  clear hm hf
  clear HM
  go_wp2_with fail
  go_ret2
  exact ⟨rfl, HF.out⟩

set_option maxHeartbeats 8000000 in
set_option maxRecDepth 1000000 in
theorem NPowers_long (k : Int) (m : Md) (hk : KindOf k m) (va : Value) (n : Int) (w : World) (hn : 256 < n) :
    Calls Try.prog 20 #[.int .i64 k, va, .int .i64 n] w fun e w' => e = .returned (.tuple #[.slice none 0 0, .int .i64 1]) ∧ Fr Nob w w' := by
  have HK := Lib.hid hk
  clear hk
  have hn0 : ¬ (n < 0) := by omega
  have hn1 : 256 < n := hn
  go_enter Try.func20, Try.ntmps20
  go_wp2_with fail
  refine (OfK HK.out _).mono ?_
  rintro e w1 ⟨gp, rfl, hgg, hm, hf⟩
  clear hgg
  have HM := Lib.hid hm
  have HF := Lib.hid hf
  clear hm hf
  clear HM
  go_wp2_with fail
  go_ret2
  exact ⟨rfl, HF.out⟩

set_option maxHeartbeats 8000000 in
set_option maxRecDepth 1000000 in
theorem NPowers_ok (k : Int) (m : Md) (hk : KindOf k m) (va : Value) (la : List UInt8) (n : Nat) (w : World) (hpa : BPart w va la) (hn : n ≤ 256) (hg : numsB m [la] = true) :
    Calls Try.prog 20 #[.int .i64 k, va, .int .i64 (n : Int)] w fun e w' => ∃ v, e = .returned (.tuple #[v, .int .i64 0]) ∧ SOwn w' w.heap.size v (powsL m.M (beN la) n) ∧ Fr Nob w w' := by
  have HOK := Lib.hid hk.ok
  have HA1 := Lib.hid (BPart.one hpa)
  have HK := Lib.hid hk
  have HP := Lib.hid (BParts.one hpa)
  have HG := Lib.hid hg
  clear hk hpa hg
  have hn0 : ¬ ((n : Int) < 0) := by omega
  have hn1 : ¬ ((256 : Int) < (n : Int)) := by omega
  go_enter Try.func20, Try.ntmps20
  go_wp2_with fail
  refine (OfK HK.out _).mono ?_
  rintro e w1 ⟨gp, rfl, hgg, hm, hf⟩
  clear hgg
  have HM := Lib.hid hm
  have HF := Lib.hid hf
  clear hm hf
  go_wp2_with (with_reducible refine wl_stop (o := ⟨some 31, _, _, _, _, _⟩) ?_)
  unfold Stop
  refine wl_slit (vs := [va]) (hgd := rfl) (ho := rfl) (hu := Try.underlying47) (hi0 := info_bsl) (hp := by rfl) (hv := fun v hv => by simp at hv; subst hv; exact HA1.out) (hk := by rfl) (hz := by rfl) (h := ?_)
  intro w2 hg2 hf2 hz2
  clear hz2
  generalize w1.heap.size = gl at *
  have HM2 := Lib.hid (HM.out.keep hf2 id)
  have HF2 := Lib.hid (HF.out.then hf2)
  have HRD := Lib.hid (show Rd w2 (some ⟨gl, 0, none⟩) 1 [va] from Rd.whole hg2)
  clear hg2 hf2 HM HF
  go_wp2_with fail
  refine (read_any m gp _ 1 1 [va] [la] _ HK.out.ok HM2.out HRD.out (HP.out.still HF2.out) (by decide)).mono ?_
  rintro e w3 ⟨hgood, -, hf3⟩
  obtain ⟨v, rfl, hown⟩ := hgood HG.out
  obtain ⟨ae, ce, rfl, -, hre, -⟩ := hown.form
  have HRE := Lib.hid hre
  have HPM := Lib.hid (HM2.out.keep hf3 id)
  have HF3 := Lib.hid (HF2.out.then hf3)
  clear hgood hown hre hf3 HM2 HF2
  have st0 := St.start Nob w3
  go_wp2_with fail
  refine (MOne_any m gp _ HOK.out (HPM.out.keep st0.fr id)).mono ?_
  rintro e' w4 ⟨rfl, hf4⟩
  have st4 := st0.keep hf4
  clear st0 hf4
  go_wp2_with (with_reducible refine wl_stop (o := ⟨some 12, _, _, _, _, _⟩) ?_)
  refine wl_allocS st4 rfl rfl (z := .agg #[.int .u64 0, .int .u64 0, .int .u64 0, .int .u64 0]) (by kernel_rfl) (cw 4 0) (by rw [cw_zero]; rfl) ?_
  intro g12 w5 st5
  clear st4
  go_wp2_with (with_reducible refine wl_stop (o := ⟨none, _, _, _, _, _⟩) ?_)
  refine wl_storeS st5 0 rfl rfl rfl rfl rfl (by first | (simp only [cw_len]; done) | (simp only [List.length_append, cw_len]; done)) (by first | (rw [cw_len]; kernel_rfl) | (simp only [List.length_append, cw_len]; kernel_rfl)) (cw_one _ _) ?_
  intro w6 st6
  clear st5
  go_wp2
  go_frame
  go_loopw [11, 12] (fun o p wr => ∃ (i gg : Nat), i ≤ n ∧ p = .pointer (some ⟨gg, 0, none⟩) ∧ lenV o = i ∧ Has wr gg (cw 4 (elN m ((beN la) ^ i))) 81 ∧ w3.heap.size ≤ gg ∧ SOwn wr w3.heap.size o (powsL m.M (beN la) i) ∧ Fr Nob w3 wr) (fun o _ _ => n - lenV o)
  case atStart => exact ⟨0, _, by omega, rfl, rfl, by rw [Nat.pow_zero]; exact st6.at 0 rfl, (st6.own (g12, cw 4 (elN m 1), 81) (by simp)).resolve_right id, by rw [powsL_zero]; exact SOwn.nil _ _, st6.fr⟩
  case round =>
    obtain ⟨i, gg, hi, rfl, hlen, hacc, hgg, hS, hfr⟩ := hrel
    clear st6
    obtain ⟨vs, hown, hpo, hsep⟩ := hS
    rw [powsL_len] at hown
    obtain ⟨aq, cq, rfl, hcq, hrq, -⟩ := id hown.form
    have HLEN := Lib.hid hlen
    clear hlen hrq
    have HACC := Lib.hid hacc
    have HFR := Lib.hid hfr
    have HOWN := Lib.hid hown
    have HPO := Lib.hid hpo
    have HSEP := Lib.hid hsep
    have HGG := Lib.hid hgg
    clear hacc hfr hown hpo hsep hgg
    by_cases hlt : i < n
    · have hltI : (i : Int) < (n : Int) := by omega
      go_wp2_with (with_reducible refine wl_stop (o := ⟨some 51, _, _, _, _, _⟩) ?_)
      refine wl_loadA rfl rfl Try.underlying81 rfl HACC.out (cw 4 (elN m ((beN la) ^ i))) (by rw [List.drop_zero, List.take_of_length_le (Nat.le_refl _)]) (by rw [cw_len]; kernel_rfl) ?_
      go_wp2_with fail
      refine (MFrom_any m gp _ HOK.out (HPM.out.keep HFR.out id) ((beN la) ^ i)).mono ?_
      rintro e' w5 ⟨rfl, hf5⟩
      have HF5 := Lib.hid hf5
      clear hf5
      go_wp2_with fail
      refine (MBytes_any ((beN la) ^ i % m.M) _).mono ?_
      rintro e' w6 ⟨v6, rfl, hv6, hf6⟩
      obtain ⟨a6, c6, rfl, -⟩ := id hv6.form
      have HV6 := Lib.hid hv6
      have HF6 := Lib.hid hf6
      clear hv6 hf6
      go_wp2_with (with_reducible refine wl_stop (o := ⟨some 54, _, _, _, _, _⟩) ?_)
      unfold Stop
      refine wl_slit (vs := [.slice a6 32 c6]) (hgd := rfl) (ho := rfl) (hu := Try.underlying47) (hi0 := info_bsl) (hp := by rfl) (hv := fun v hv => by simp at hv; subst hv; rfl) (hk := by rfl) (hz := by rfl) (h := ?_)
      intro w7 hg7 hf7 hz7
      clear hz7
      generalize w6.heap.size = g7 at *
      have HRD7 := Lib.hid (show Rd w7 (some ⟨g7, 0, none⟩) (1 * 1) [.slice a6 32 c6] from Rd.whole hg7)
      have HF7 := Lib.hid hf7
      clear hg7 hf7
      have HF37 := Lib.hid (HFR.out.then (HF5.out.then (HF6.out.then HF7.out)))
      have HOWN7 := Lib.hid (HOWN.out.still (HF5.out.then (HF6.out.then HF7.out)))
      have HACC7 := Lib.hid (HACC.out.keep (HF5.out.then (HF6.out.then HF7.out)) id)
      have hsz := HF37.out.size
      go_wp2_with (with_reducible refine wl_stop (o := ⟨some 55, _, _, _, _, _⟩) ?_)
      unfold Stop
      refine wl_append rfl rfl Try.underlying47 info_bsl rfl (by decide) HOWN7.out rfl rfl HRD7.out (fun u hu => by simp at hu; subst hu; rfl) (by unfold maxLen; omega) (by omega) hsz ?_
      intro v8 w8 hown8 hf8 hb8
      clear hb8 hsz
      obtain ⟨a8, c8, rfl, -⟩ := id hown8.form
      have HS8 := Lib.hid (SOwn.snocF (l := be32 ((beN la) ^ i % m.M)) (by rw [powsL_len]; exact HOWN.out.still HF5.out) (HPO.out.still HF5.out) HSEP.out (Nat.le_trans HFR.out.size HF5.out.size) (by rw [be32_len]; exact HV6.out) HF6.out HF7.out (by rw [powsL_len]; exact hown8) hf8)
      have HF38 := Lib.hid (HOWN7.out.fr HF37.out (Nat.le_refl _) hf8)
      have HACC8 := Lib.hid (HACC7.out.keep hf8 (HOWN7.out.ne HACC7.out (by decide)))
      clear hown8 hf8 HF5 HF6 HF7 HF37 HOWN7 HACC7 HV6 HRD7
      have HPM8 := Lib.hid (HPM.out.keep HF38.out id)
      have HRE8 := Lib.hid (HRE.out.still HF38.out)
      obtain ⟨be, oe, hee, -⟩ := HRE.out.at (by simp)
      subst hee
      have st20 := St.start Nob w8
      go_wp2_with (with_reducible refine wl_stop (o := ⟨some 56, _, _, _, _, _⟩) ?_)
      refine wl_loadA rfl rfl Try.underlying81 rfl HACC8.out (cw 4 (elN m ((beN la) ^ i))) (by rw [List.drop_zero, List.take_of_length_le (Nat.le_refl _)]) (by rw [cw_len]; kernel_rfl) ?_
      go_wp2_with (with_reducible refine wl_stop (o := ⟨some 12, _, _, _, _, _⟩) ?_)
      refine wl_allocS st20 rfl rfl (z := .agg #[.int .u64 0, .int .u64 0, .int .u64 0, .int .u64 0]) (by kernel_rfl) (cw 4 0) (by rw [cw_zero]; rfl) ?_
      intro g15 w21 st21
      clear st20
      go_wp2_with (with_reducible refine wl_stop (o := ⟨none, _, _, _, _, _⟩) ?_)
      refine wl_storeS st21 0 rfl rfl rfl rfl rfl (by first | (simp only [cw_len]; done) | (simp only [List.length_append, cw_len]; done)) (by first | (rw [cw_len]; kernel_rfl) | (simp only [List.length_append, cw_len]; kernel_rfl)) (cw_one _ _) ?_
      intro w22 st22
      clear st21
      go_wp2_with fail
      refine wp_region_noPanic ?_
      refine wp_region_plan (fun wx => St Nob w8 wx [(g15, cw 4 (elN m ((beN la) ^ i)), 81)]) 6 (.w 0 (.t 1 (.w 2 (.w 3 (.t 4 (.r 5 (.m 6 .nil))))))) (by kernel_rfl) (by kernel_rfl) st22.drew (fun _ _ _ _ _ h => h) ?_
      have hd22 := st22.drew
      clear st22
      refine plan_w (v := ?_) rfl rfl (fun wx => ?_) ?_
      rotate_left 1
      · (go_simp; with_reducible rfl)
      try simp only [Act.put, List.setIfInBounds_toArray, List.set_cons_zero, List.set_cons_succ]
      refine plan_arr rfl rfl rfl rfl (cw 4 (elN m ((beN la) ^ i))) (fun wx hS => St.rangeL hS 0 rfl 0 _ (by rw [List.drop_zero, List.take_of_length_le (Nat.le_refl _)])) Try.underlying81 rfl (by first | (rw [cw_len]; kernel_rfl) | (simp only [List.length_append, cw_len]; kernel_rfl)) ?_
      try simp only [Act.put, List.setIfInBounds_toArray, List.set_cons_zero, List.set_cons_succ]
      refine plan_w (v := ?_) rfl rfl (fun wx => ?_) ?_
      rotate_left 1
      · (go_simp; with_reducible rfl)
      try simp only [Act.put, List.setIfInBounds_toArray, List.set_cons_zero, List.set_cons_succ]
      refine plan_w (v := ?_) rfl rfl (fun wx => ?_) ?_
      rotate_left 1
      · (go_simp; with_reducible rfl)
      try simp only [Act.put, List.setIfInBounds_toArray, List.set_cons_zero, List.set_cons_succ]
      refine plan_arr rfl rfl rfl rfl (cw 4 (elN m (beN la))) (fun wx hS => (rd_range (HRE8.out.still (St.fr hS)) 0 _ (el_first m la []))) Try.underlying81 rfl (by first | (rw [cw_len]; kernel_rfl) | (simp only [List.length_append, cw_len]; kernel_rfl)) ?_
      try simp only [Act.put, List.setIfInBounds_toArray, List.set_cons_zero, List.set_cons_succ]
      refine plan_r rfl rfl ?_
      go_simp
      refine (MMulE m gp _ HOK.out (HPM8.out.keep hd22.fr id) ((beN la) ^ i) (beN la)).mono ?_
      rintro e' w23 ⟨rfl, hf23⟩
      have st23 := hd22.keep hf23
      clear hf23
      clear hd22
      refine ⟨st23, ?_⟩
      try simp only [Act.put, List.setIfInBounds_toArray, List.set_cons_zero, List.set_cons_succ]
      refine plan_m rfl rfl ?_
      refine wp_storeS st23 0 rfl rfl rfl rfl (by first | (simp only [cw_len]; done) | (simp only [List.length_append, cw_len]; done)) (by first | (rw [cw_len]; kernel_rfl) | (simp only [List.length_append, cw_len]; kernel_rfl)) (cw_one _ _) ?_
      intro w24 st24
      clear st23
      try simp only [Act.put]
      refine plan_end ?_
      refine NoPanic.normal ?_
      have hg15 := st24.at 0 rfl
      have hf15 := st24.fr
      have hl15 := (st24.own (g15, cw 4 (elN m ((beN la) ^ i * (beN la))), 81) (by simp)).resolve_right id
      clear st24
      go_wp2
      go_roundw
      case rel => exact ⟨i + 1, _, by omega, rfl, rfl, by rw [Nat.pow_succ]; exact hg15, Nat.le_trans HF38.out.size hl15, by rw [← powsL_succ]; exact HS8.out.still hf15, HF38.out.then hf15⟩
      case measure => simp [lenV]; omega
    · have hge : ¬ ((i : Int) < (n : Int)) := by omega
      have HI := Lib.hid (show i = n by omega)
      go_wp2_with fail
      go_ret2
      refine ⟨_, rfl, ?_, HF3.out.then HFR.out⟩
      have hs : SOwn wr w3.heap.size (.slice aq i cq) (powsL m.M (beN la) i) := ⟨vs, by rw [powsL_len]; exact HOWN.out, HPO.out, HSEP.out⟩
      rw [HI.out] at hs ⊢
      exact hs.mono HF3.out.size
end Go.Proofs.Ytmegaegedlbckaa

/- The law's powers. -/
namespace Mvp
theorem powsL_get (M x n i : Nat) (h : i < n) : (powsL M x n).getD i [] = be32 (x ^ i % M) := by
  induction n with
  | zero => omega
  | succ n ih =>
    rw [← powsL_succ]
    have hl := powsL_len M x n
    by_cases hi : i < n
    · rw [List.getD_eq_getElem?_getD, List.getElem?_append_left (by omega), ← List.getD_eq_getElem?_getD]; exact ih hi
    · have : i = n := by omega
      subst this
      rw [List.getD_eq_getElem?_getD, List.getElem?_append_right (by omega), hl, Nat.sub_self]; rfl
end Mvp
namespace Go.Proofs.Ytmegaegedlbckaa
open Go.RowKit Go.Mv Mvp
theorem rd_cell {w : World} {b o n : Nat} {vs : List Value} (h : Rd w (some ⟨b, o, none⟩) n vs) (i : Nat) (v : Value) (hv : vs[i]? = some v) : w.cell? ⟨b, o + i, none⟩ = some v := by
  have h1 := rd_at h 0 vs (by simp)
  have h2 := h1 i v hv
  simpa using h2
attribute [local irreducible] limbs lw mix cw cSub cAdd cMul foldC valFrom beN laid be32 powm montT mstep elN mdL lentL numB numsB elCells powsL

set_option maxHeartbeats 8000000 in
set_option maxRecDepth 1000000 in
theorem lpow_neg_t (m : Md) (hok : m.Ok) (s : ByteArray) (n : Int) (w : World) (ha : numB m s.data.toList = true) (hn : n < 0) :
    Calls Try.prog 22 #[fv m.M, .string s, .int .i64 n, .slice none 0 0, .int .i64 1] w fun e w' => e = .returned (.bool true) ∧ Fr Nob w w' := by
  have HOK := Lib.hid hok
  have HA := Lib.hid ha
  clear hok ha
  have hn0 : n < 0 := hn
  have st0 := St.start Nob w
  go_enter Try.func22, Try.ntmps22
  go_wp2_with (with_reducible refine wl_stop (o := ⟨some 5, _, _, _, _, _⟩) ?_)
  refine wl_boxS st0 rfl rfl rfl (cw 4 m.M ++ cw 4 (B64 ^ 4 - m.M)) rfl ?_
  intro g5 w1 st1
  clear st0
  go_wp2_with (with_reducible refine wl_stop (o := ⟨some 16, _, _, _, _, _⟩) ?_)
  refine wl_loadSt st1 0 rfl rfl rfl Try.underlying40 rfl rfl (by first | (rw [cw_len]; kernel_rfl) | (simp only [List.length_append, cw_len]; kernel_rfl)) ?_
  go_wp2_with fail
  refine (Number_t m HOK.out.lt s _ HA.out).mono ?_
  rintro e' w2 ⟨rfl, hf2⟩
  have st2 := st1.keep hf2
  clear st1 hf2
  go_wp2_with (with_reducible refine wl_stop (o := ⟨some 11, _, _, _, _, _⟩) ?_)
  refine wl_allocS st2 rfl rfl (z := .agg #[.int .u64 0, .int .u64 0, .int .u64 0, .int .u64 0]) (by kernel_rfl) (cw 4 0) (by rw [cw_zero]; rfl) ?_
  intro g11 w3 st3
  clear st2
  go_wp2_with (with_reducible refine wl_stop (o := ⟨none, _, _, _, _, _⟩) ?_)
  refine wl_storeS st3 1 rfl rfl rfl rfl rfl (by first | (simp only [cw_len]; done) | (simp only [List.length_append, cw_len]; done)) (by first | (rw [cw_len]; kernel_rfl) | (simp only [List.length_append, cw_len]; kernel_rfl)) (cw_one _ _) ?_
  intro w4 st4
  clear st3
  have hfr := st4.fr
  clear st4
  go_wp2_with fail
  go_ret
  exact ⟨rfl, hfr⟩

set_option maxHeartbeats 8000000 in
set_option maxRecDepth 1000000 in
theorem lpow_long_t (m : Md) (hok : m.Ok) (s : ByteArray) (n : Int) (w : World) (ha : numB m s.data.toList = true) (hn : 256 < n) :
    Calls Try.prog 22 #[fv m.M, .string s, .int .i64 n, .slice none 0 0, .int .i64 1] w fun e w' => e = .returned (.bool true) ∧ Fr Nob w w' := by
  have HOK := Lib.hid hok
  have HA := Lib.hid ha
  clear hok ha
  have hn0 : ¬ (n < 0) := by omega
  have hn1 : 256 < n := hn
  have st0 := St.start Nob w
  go_enter Try.func22, Try.ntmps22
  go_wp2_with (with_reducible refine wl_stop (o := ⟨some 5, _, _, _, _, _⟩) ?_)
  refine wl_boxS st0 rfl rfl rfl (cw 4 m.M ++ cw 4 (B64 ^ 4 - m.M)) rfl ?_
  intro g5 w1 st1
  clear st0
  go_wp2_with (with_reducible refine wl_stop (o := ⟨some 16, _, _, _, _, _⟩) ?_)
  refine wl_loadSt st1 0 rfl rfl rfl Try.underlying40 rfl rfl (by first | (rw [cw_len]; kernel_rfl) | (simp only [List.length_append, cw_len]; kernel_rfl)) ?_
  go_wp2_with fail
  refine (Number_t m HOK.out.lt s _ HA.out).mono ?_
  rintro e' w2 ⟨rfl, hf2⟩
  have st2 := st1.keep hf2
  clear st1 hf2
  go_wp2_with (with_reducible refine wl_stop (o := ⟨some 11, _, _, _, _, _⟩) ?_)
  refine wl_allocS st2 rfl rfl (z := .agg #[.int .u64 0, .int .u64 0, .int .u64 0, .int .u64 0]) (by kernel_rfl) (cw 4 0) (by rw [cw_zero]; rfl) ?_
  intro g11 w3 st3
  clear st2
  go_wp2_with (with_reducible refine wl_stop (o := ⟨none, _, _, _, _, _⟩) ?_)
  refine wl_storeS st3 1 rfl rfl rfl rfl rfl (by first | (simp only [cw_len]; done) | (simp only [List.length_append, cw_len]; done)) (by first | (rw [cw_len]; kernel_rfl) | (simp only [List.length_append, cw_len]; kernel_rfl)) (cw_one _ _) ?_
  intro w4 st4
  clear st3
  have hfr := st4.fr
  clear st4
  go_wp2_with fail
  go_ret
  exact ⟨rfl, hfr⟩

set_option maxHeartbeats 8000000 in
set_option maxRecDepth 1000000 in
theorem lpow_neg_f (m : Md) (hok : m.Ok) (s : ByteArray) (n : Int) (w : World) (ha : numB m s.data.toList = false) (hn : n < 0) :
    Calls Try.prog 22 #[fv m.M, .string s, .int .i64 n, .slice none 0 0, .int .i64 1] w fun e w' => e = .returned (.bool true) ∧ Fr Nob w w' := by
  have HOK := Lib.hid hok
  have HA := Lib.hid ha
  clear hok ha
  have hn0 : n < 0 := hn
  have st0 := St.start Nob w
  go_enter Try.func22, Try.ntmps22
  go_wp2_with (with_reducible refine wl_stop (o := ⟨some 5, _, _, _, _, _⟩) ?_)
  refine wl_boxS st0 rfl rfl rfl (cw 4 m.M ++ cw 4 (B64 ^ 4 - m.M)) rfl ?_
  intro g5 w1 st1
  clear st0
  go_wp2_with (with_reducible refine wl_stop (o := ⟨some 16, _, _, _, _, _⟩) ?_)
  refine wl_loadSt st1 0 rfl rfl rfl Try.underlying40 rfl rfl (by first | (rw [cw_len]; kernel_rfl) | (simp only [List.length_append, cw_len]; kernel_rfl)) ?_
  go_wp2_with fail
  refine (Number_f m HOK.out.lt s _ HA.out).mono ?_
  rintro e' w2 ⟨NA, rfl, hf2⟩
  have st2 := st1.keep hf2
  clear st1 hf2
  go_wp2_with (with_reducible refine wl_stop (o := ⟨some 11, _, _, _, _, _⟩) ?_)
  refine wl_allocS st2 rfl rfl (z := .agg #[.int .u64 0, .int .u64 0, .int .u64 0, .int .u64 0]) (by kernel_rfl) (cw 4 0) (by rw [cw_zero]; rfl) ?_
  intro g11 w3 st3
  clear st2
  go_wp2_with (with_reducible refine wl_stop (o := ⟨none, _, _, _, _, _⟩) ?_)
  refine wl_storeS st3 1 rfl rfl rfl rfl rfl (by first | (simp only [cw_len]; done) | (simp only [List.length_append, cw_len]; done)) (by first | (rw [cw_len]; kernel_rfl) | (simp only [List.length_append, cw_len]; kernel_rfl)) (cw_one _ _) ?_
  intro w4 st4
  clear st3
  have hfr := st4.fr
  clear st4
  go_wp2_with fail
  go_ret
  exact ⟨rfl, hfr⟩

set_option maxHeartbeats 8000000 in
set_option maxRecDepth 1000000 in
theorem lpow_long_f (m : Md) (hok : m.Ok) (s : ByteArray) (n : Int) (w : World) (ha : numB m s.data.toList = false) (hn : 256 < n) :
    Calls Try.prog 22 #[fv m.M, .string s, .int .i64 n, .slice none 0 0, .int .i64 1] w fun e w' => e = .returned (.bool true) ∧ Fr Nob w w' := by
  have HOK := Lib.hid hok
  have HA := Lib.hid ha
  clear hok ha
  have hn0 : ¬ (n < 0) := by omega
  have hn1 : 256 < n := hn
  have st0 := St.start Nob w
  go_enter Try.func22, Try.ntmps22
  go_wp2_with (with_reducible refine wl_stop (o := ⟨some 5, _, _, _, _, _⟩) ?_)
  refine wl_boxS st0 rfl rfl rfl (cw 4 m.M ++ cw 4 (B64 ^ 4 - m.M)) rfl ?_
  intro g5 w1 st1
  clear st0
  go_wp2_with (with_reducible refine wl_stop (o := ⟨some 16, _, _, _, _, _⟩) ?_)
  refine wl_loadSt st1 0 rfl rfl rfl Try.underlying40 rfl rfl (by first | (rw [cw_len]; kernel_rfl) | (simp only [List.length_append, cw_len]; kernel_rfl)) ?_
  go_wp2_with fail
  refine (Number_f m HOK.out.lt s _ HA.out).mono ?_
  rintro e' w2 ⟨NA, rfl, hf2⟩
  have st2 := st1.keep hf2
  clear st1 hf2
  go_wp2_with (with_reducible refine wl_stop (o := ⟨some 11, _, _, _, _, _⟩) ?_)
  refine wl_allocS st2 rfl rfl (z := .agg #[.int .u64 0, .int .u64 0, .int .u64 0, .int .u64 0]) (by kernel_rfl) (cw 4 0) (by rw [cw_zero]; rfl) ?_
  intro g11 w3 st3
  clear st2
  go_wp2_with (with_reducible refine wl_stop (o := ⟨none, _, _, _, _, _⟩) ?_)
  refine wl_storeS st3 1 rfl rfl rfl rfl rfl (by first | (simp only [cw_len]; done) | (simp only [List.length_append, cw_len]; done)) (by first | (rw [cw_len]; kernel_rfl) | (simp only [List.length_append, cw_len]; kernel_rfl)) (cw_one _ _) ?_
  intro w4 st4
  clear st3
  have hfr := st4.fr
  clear st4
  go_wp2_with fail
  go_ret
  exact ⟨rfl, hfr⟩

set_option maxHeartbeats 8000000 in
set_option maxRecDepth 1000000 in
theorem lpow_bad (m : Md) (hok : m.Ok) (s : ByteArray) (n : Nat) (w : World) (ha : numB m s.data.toList = false) (hn : n ≤ 256) :
    Calls Try.prog 22 #[fv m.M, .string s, .int .i64 (n : Int), .slice none 0 0, .int .i64 3] w fun e w' => e = .returned (.bool true) ∧ Fr Nob w w' := by
  have HOK := Lib.hid hok
  have HA := Lib.hid ha
  clear hok ha
  have hn0 : ¬ ((n : Int) < 0) := by omega
  have hn1 : ¬ ((256 : Int) < (n : Int)) := by omega
  have st0 := St.start Nob w
  go_enter Try.func22, Try.ntmps22
  go_wp2_with (with_reducible refine wl_stop (o := ⟨some 5, _, _, _, _, _⟩) ?_)
  refine wl_boxS st0 rfl rfl rfl (cw 4 m.M ++ cw 4 (B64 ^ 4 - m.M)) rfl ?_
  intro g5 w1 st1
  clear st0
  go_wp2_with (with_reducible refine wl_stop (o := ⟨some 16, _, _, _, _, _⟩) ?_)
  refine wl_loadSt st1 0 rfl rfl rfl Try.underlying40 rfl rfl (by first | (rw [cw_len]; kernel_rfl) | (simp only [List.length_append, cw_len]; kernel_rfl)) ?_
  go_wp2_with fail
  refine (Number_f m HOK.out.lt s _ HA.out).mono ?_
  rintro e' w2 ⟨NA, rfl, hf2⟩
  have st2 := st1.keep hf2
  clear st1 hf2
  go_wp2_with (with_reducible refine wl_stop (o := ⟨some 11, _, _, _, _, _⟩) ?_)
  refine wl_allocS st2 rfl rfl (z := .agg #[.int .u64 0, .int .u64 0, .int .u64 0, .int .u64 0]) (by kernel_rfl) (cw 4 0) (by rw [cw_zero]; rfl) ?_
  intro g11 w3 st3
  clear st2
  go_wp2_with (with_reducible refine wl_stop (o := ⟨none, _, _, _, _, _⟩) ?_)
  refine wl_storeS st3 1 rfl rfl rfl rfl rfl (by first | (simp only [cw_len]; done) | (simp only [List.length_append, cw_len]; done)) (by first | (rw [cw_len]; kernel_rfl) | (simp only [List.length_append, cw_len]; kernel_rfl)) (cw_one _ _) ?_
  intro w4 st4
  clear st3
  have hfr := st4.fr
  clear st4
  go_wp2_with fail
  go_ret
  exact ⟨rfl, hfr⟩

set_option maxHeartbeats 8000000 in
set_option maxRecDepth 1000000 in
theorem lpow_ok (m : Md) (hok : m.Ok) (s : ByteArray) (n : Nat) (w : World) (ha : numB m s.data.toList = true) (hn : n ≤ 256) (av : Option Addr) (cv : Nat) (vs : List Value) (hv : Rd w av n vs) (hps : BParts w vs (powsL m.M (beN s.data.toList) n)) :
    Calls Try.prog 22 #[fv m.M, .string s, .int .i64 (n : Int), .slice av n cv, .int .i64 0] w fun e w' => e = .returned (.bool true) ∧ Fr Nob w w' := by
  have HOK := Lib.hid hok
  have HV := Lib.hid hv
  have HPS := Lib.hid hps
  have HX := Lib.hid (Nat.lt_trans (numB_lt m _ ha) hok.lt)
  have HM0 := Lib.hid (show 0 < m.M by have := hok.one; omega)
  have H1 := Lib.hid (show (1 : Nat) = beN s.data.toList ^ 0 % m.M by rw [Nat.pow_zero, Nat.mod_eq_of_lt hok.one])
  clear hv hps
  have HA := Lib.hid ha
  clear hok ha
  have hn0 : ¬ ((n : Int) < 0) := by omega
  have hn1 : ¬ ((256 : Int) < (n : Int)) := by omega
  have st0 := St.start Nob w
  go_enter Try.func22, Try.ntmps22
  go_wp2_with (with_reducible refine wl_stop (o := ⟨some 5, _, _, _, _, _⟩) ?_)
  refine wl_boxS st0 rfl rfl rfl (cw 4 m.M ++ cw 4 (B64 ^ 4 - m.M)) rfl ?_
  intro g5 w1 st1
  clear st0
  go_wp2_with (with_reducible refine wl_stop (o := ⟨some 16, _, _, _, _, _⟩) ?_)
  refine wl_loadSt st1 0 rfl rfl rfl Try.underlying40 rfl rfl (by first | (rw [cw_len]; kernel_rfl) | (simp only [List.length_append, cw_len]; kernel_rfl)) ?_
  go_wp2_with fail
  refine (Number_t m HOK.out.lt s _ HA.out).mono ?_
  rintro e' w2 ⟨rfl, hf2⟩
  have st2 := st1.keep hf2
  clear st1 hf2
  go_wp2_with (with_reducible refine wl_stop (o := ⟨some 11, _, _, _, _, _⟩) ?_)
  refine wl_allocS st2 rfl rfl (z := .agg #[.int .u64 0, .int .u64 0, .int .u64 0, .int .u64 0]) (by kernel_rfl) (cw 4 0) (by rw [cw_zero]; rfl) ?_
  intro g11 w3 st3
  clear st2
  go_wp2_with (with_reducible refine wl_stop (o := ⟨none, _, _, _, _, _⟩) ?_)
  refine wl_storeS st3 1 rfl rfl rfl rfl rfl (by first | (simp only [cw_len]; done) | (simp only [List.length_append, cw_len]; done)) (by first | (rw [cw_len]; kernel_rfl) | (simp only [List.length_append, cw_len]; kernel_rfl)) (cw_one _ _) ?_
  intro w4 st4
  clear st3
  go_wp2_with fail
  refine (Small_any 1 _ (by decide)).mono ?_
  rintro e' w5 ⟨rfl, hf5⟩
  have st5 := st4.keep hf5
  clear st4 hf5
  go_wp2_with (with_reducible refine wl_stop (o := ⟨some 13, _, _, _, _, _⟩) ?_)
  refine wl_allocS st5 rfl rfl (z := .agg #[.int .u64 0, .int .u64 0, .int .u64 0, .int .u64 0]) (by kernel_rfl) (cw 4 0) (by rw [cw_zero]; rfl) ?_
  intro g13 w6 st6
  clear st5
  go_wp2_with (with_reducible refine wl_stop (o := ⟨none, _, _, _, _, _⟩) ?_)
  refine wl_storeS st6 2 rfl rfl rfl rfl rfl (by first | (simp only [cw_len]; done) | (simp only [List.length_append, cw_len]; done)) (by first | (rw [cw_len]; kernel_rfl) | (simp only [List.length_append, cw_len]; kernel_rfl)) (cw_one _ _) ?_
  intro w7 st7
  clear st6
  have st7 : St Nob w w7 [(g5, cw 4 m.M ++ cw 4 (B64 ^ 4 - m.M), 40), (g11, cw 4 (beN s.data.toList), 38), (g13, cw 4 1, 38)] := st7
  rw [show (1 : Nat) = beN s.data.toList ^ 0 % m.M from H1.out] at st7
  go_wp2
  go_loopw [14] (fun z wr => ∃ i : Nat, i ≤ n ∧ z = .int .i64 (i : Int) ∧ St Nob w wr [(g5, cw 4 m.M ++ cw 4 (B64 ^ 4 - m.M), 40), (g11, cw 4 (beN s.data.toList), 38), (g13, cw 4 (beN s.data.toList ^ i % m.M), 38)]) (fun z _ => n - (intOf z).toNat)
  case atStart => exact ⟨0, by omega, rfl, st7⟩
  case round =>
    obtain ⟨i, hi, rfl, st⟩ := hrel
    clear st7
    by_cases hlt : i < n
    · have hltI : (i : Int) < (n : Int) := by omega
      obtain ⟨b, o, hab, -⟩ := HV.out.at (by omega)
      subst hab
      obtain ⟨v, hv⟩ : ∃ v, vs[i]? = some v := ⟨_, List.getElem?_eq_getElem (by have := HV.out.len; omega)⟩
      obtain ⟨a', n', c', rfl, hc', hr'⟩ := HPS.out.2 i v hv
      rw [powsL_get _ _ _ _ hlt] at hr'
      have hl' := hr'.len
      rw [be32_len] at hl'
      subst hl'
      have hnx : beN s.data.toList ^ i % m.M * beN s.data.toList % m.M = beN s.data.toList ^ (i + 1) % m.M := by rw [Nat.mod_mul_mod, ← Nat.pow_succ]
      have hplt : beN s.data.toList ^ i % m.M < B64 ^ 4 := Nat.lt_trans (Nat.mod_lt _ (by have := HOK.out.one; omega)) HOK.out.lt
      generalize beN s.data.toList ^ i % m.M = pw at *
      have HR := Lib.hid hr'
      have HVI := Lib.hid hv
      have HNX := Lib.hid hnx
      have HPW := Lib.hid hplt
      clear hr' hv hc' hnx hplt
      go_wp2_with fail
      refine wp_region_noPanic ?_
      refine wp_region_plan (fun wx => St Nob w wx [(g5, cw 4 m.M ++ cw 4 (B64 ^ 4 - m.M), 40), (g11, cw 4 (beN s.data.toList), 38), (g13, cw 4 pw, 38)]) 7 (.w 0 (.w 1 (.w 2 (.t 3 (.t 4 (.t 5 (.r 6 (.m 7 .nil)))))))) (by kernel_rfl) (by kernel_rfl) st.drew (fun _ _ _ _ _ h => h) ?_
      have hd7 := st.drew
      clear st
      refine plan_w (v := ?_) rfl rfl (fun wx => ?_) ?_
      rotate_left 1
      · (go_simp; with_reducible rfl)
      try simp only [Act.put, List.setIfInBounds_toArray, List.set_cons_zero, List.set_cons_succ]
      refine plan_w (v := ?_) rfl rfl (fun wx => ?_) ?_
      rotate_left 1
      · (go_simp; with_reducible rfl)
      try simp only [Act.put, List.setIfInBounds_toArray, List.set_cons_zero, List.set_cons_succ]
      refine plan_w (v := ?_) rfl rfl (fun wx => ?_) ?_
      rotate_left 1
      · (go_simp; with_reducible rfl)
      try simp only [Act.put, List.setIfInBounds_toArray, List.set_cons_zero, List.set_cons_succ]
      refine plan_t (v := ?_) rfl rfl (fun wx hS => ?_) ?_
      rotate_left 1
      · (have hcl := rd_cell (HV.out.still (St.fr hS)) i _ HVI.out; clear hS; go_simp; with_reducible rfl)
      try simp only [Act.put, List.setIfInBounds_toArray, List.set_cons_zero, List.set_cons_succ]
      refine plan_t (v := ?_) rfl rfl (fun wx hS => ?_) ?_
      rotate_left 1
      · (have hc := run_string (P := Try.prog) (HR.out.still (St.fr hS)) c' Try.underlying29 Try.underlying5 Try.underlying9; clear hS; go_simp; with_reducible rfl)
      try simp only [Act.put, List.setIfInBounds_toArray, List.set_cons_zero, List.set_cons_succ]
      refine plan_arr rfl rfl rfl rfl (cw 4 pw) (fun wx hS => St.rangeL hS 2 rfl 0 _ (by rw [List.drop_zero, List.take_of_length_le (Nat.le_refl _)])) Try.underlying38 rfl (by first | (rw [cw_len]; kernel_rfl) | (simp only [List.length_append, cw_len]; kernel_rfl)) ?_
      try simp only [Act.put, List.setIfInBounds_toArray, List.set_cons_zero, List.set_cons_succ]
      refine plan_r rfl rfl ?_
      go_simp
      refine (RBytes_any pw _).mono ?_
      rintro e' w8 ⟨rfl, hf8⟩
      have st8 := hd7.keep hf8
      clear hf8
      clear hd7
      refine ⟨st8, ?_⟩
      try simp only [Act.put, List.setIfInBounds_toArray, List.set_cons_zero, List.set_cons_succ]
      refine plan_m rfl rfl ?_
      go_simp
      try simp only [Act.put, List.setIfInBounds_toArray, List.set_cons_zero, List.set_cons_succ]
      refine plan_end ?_
      refine NoPanic.normal ?_
      go_wp2_with (with_reducible refine wl_stop (o := ⟨some 67, _, _, _, _, _⟩) ?_)
      refine wl_loadSt st8 0 rfl rfl rfl Try.underlying40 rfl rfl (by first | (rw [cw_len]; kernel_rfl) | (simp only [List.length_append, cw_len]; kernel_rfl)) ?_
      go_wp2_with (with_reducible refine wl_stop (o := ⟨some 68, _, _, _, _, _⟩) ?_)
      refine wl_loadS st8 2 rfl rfl rfl Try.underlying38 rfl (by first | (rw [cw_len]; kernel_rfl) | (simp only [List.length_append, cw_len]; kernel_rfl)) ?_
      go_wp2_with (with_reducible refine wl_stop (o := ⟨some 69, _, _, _, _, _⟩) ?_)
      refine wl_loadS st8 1 rfl rfl rfl Try.underlying38 rfl (by first | (rw [cw_len]; kernel_rfl) | (simp only [List.length_append, cw_len]; kernel_rfl)) ?_
      go_wp2_with fail
      refine (Mul_any m.M pw (beN s.data.toList) _ HM0.out HOK.out.lt HPW.out HX.out).mono ?_
      rintro e' w9 ⟨rfl, hf9⟩
      have st9 := st8.keep hf9
      clear st8 hf9
      go_wp2_with (with_reducible refine wl_stop (o := ⟨none, _, _, _, _, _⟩) ?_)
      refine wl_storeS st9 2 rfl rfl rfl rfl rfl (by first | (simp only [cw_len]; done) | (simp only [List.length_append, cw_len]; done)) (by first | (rw [cw_len]; kernel_rfl) | (simp only [List.length_append, cw_len]; kernel_rfl)) (cw_one _ _) ?_
      intro w10 st10
      clear st9
      go_wp2
      go_roundw
      case rel => exact ⟨i + 1, by omega, by go_num, by rw [← HNX.out]; exact st10⟩
      case measure => simp [intOf]; omega
    · have hge : ¬ ((i : Int) < (n : Int)) := by omega
      have hfr := st.fr
      clear st
      go_wp2_with fail
      go_ret
      exact ⟨rfl, hfr⟩
end Go.Proofs.Ytmegaegedlbckaa

/- The law NumLaws. -/
namespace Go.Proofs.Ytmegaegedlbckaa
open Go.RowKit Go.Mv Mvp Mvq
theorem BPart.ofOwn {w : World} {base : Nat} {v : Value} {n : Nat} {l : List UInt8} (h : Own w base 5 1 v n (bs l)) : BPart w v l := by
  obtain ⟨a, c, rfl, hc, hr, -⟩ := h.form
  exact ⟨a, n, c, rfl, hc, by rw [Nat.mul_one] at hr; exact hr⟩
theorem str_ne {x y : Nat} (hx : x < B64 ^ 4) (hy : y < B64 ^ 4) (h : x ≠ y) : ((mkS (be32 x)).toList == (mkS (be32 y)).toList) = false := by
  rw [beq_mkS]; exact decide_eq_false fun e => h (be32_inj (by rw [← b256]; exact hx) (by rw [← b256]; exact hy) e)
theorem even_bit (w : Nat) (h : w % 2 = 0) : bits .and .u8 ((UInt8.ofNat w).toNat : Int) 1 = 0 := by
  have hn : (UInt8.ofNat w).toNat = w % 256 := by simp
  rw [hn]
  have ha := u8_and_nat (w % 256) 1 (Nat.mod_lt _ (by decide)) (by decide)
  rw [Nat.and_one_is_mod] at ha
  refine Eq.trans ha ?_
  omega
theorem bs_at {l : List UInt8} {i : Nat} {x : UInt8} (h : l[i]? = some x) : (bs l)[i]? = some (.int .u8 (x.toNat : Int)) := by
  unfold bs; rw [List.getElem?_map, h]; rfl
attribute [local irreducible] limbs lw mix cw cSub cAdd cMul foldC valFrom beN laid be32 powm montT mstep elN mdL elCells numsB numB rtV rtOk rtN Kp
end Go.Proofs.Ytmegaegedlbckaa

/- The law NumLaws, walked: NumLaws_k1_z_n and its like. -/
namespace Go.Proofs.Ytmegaegedlbckaa
open Go.RowKit Go.Mv Mvp Mvq
attribute [local irreducible] limbs lw mix cw cSub cAdd cMul foldC valFrom beN laid be32 powm montT mstep elN mdL elCells numsB numB rtV rtOk rtN Kp
set_option maxHeartbeats 32000000 in
set_option maxRecDepth 1000000 in
theorem NumLaws_k1_z_n (kd : Int) (m : Md) (hk : KindOf 1 m) (s t u : ByteArray) (w0 : World) (hs : s.size ≤ 1024) (ht : t.size ≤ 1024) (hu : u.size ≤ 1024) (A B C AB BC S P Q T AC D I PI : Nat) (eab : (A + B) % m.M = AB) (eba : (B + A) % m.M = AB) (ebc : (B + C) % m.M = BC) (el1 : (AB + C) % m.M = S) (er1 : (A + BC) % m.M = S) (em : A * B % m.M = P) (en : B * A % m.M = P) (ebm : B * C % m.M = Q) (el2 : P * C % m.M = T) (er2 : A * Q % m.M = T) (eac : A * C % m.M = AC) (el3 : A * BC % m.M = D) (er3 : (P + AC) % m.M = D) (ed : (AB + (m.M - B)) % m.M = A) (ezz : (A + (m.M - A)) % m.M = 0) (ex : A * 1 % m.M = A) (ei : A ^ (m.M - 2) % m.M = I) (epi : A * I % m.M = PI) (lA : A < m.M) (lB : B < m.M) (lC : C < m.M) (lAB : AB < m.M) (lBC : BC < m.M) (lP : P < m.M) (lQ : Q < m.M) (lAC : AC < m.M) (lI : I < m.M) (l1 : 1 < m.M) (l0 : 0 < m.M) (rA : beN s.data.toList % m.M = A) (rB : beN t.data.toList % m.M = B) (rC : beN u.data.toList % m.M = C) (hA : A = 0) (hI : I = 0) (hkd : kd < 0) (hlo : -9223372036854775808 ≤ kd ∧ kd ≤ 9223372036854775807) (hrem : -((kd + 1).tmod 2) = 1) :
    Calls Try.prog 8 #[.int .i64 kd, .string s, .string t, .string u] w0 fun e w' => e = .returned (.bool true) ∧ Fr Nob w0 w' := by
  have hgs : ¬ ((1024 : Int) < (s.size : Int)) := by omega
  have hgt : ¬ ((1024 : Int) < (t.size : Int)) := by omega
  have hgu : ¬ ((1024 : Int) < (u.size : Int)) := by omega
  have HREM := Lib.hid hrem
  clear hrem
  have HKK := Lib.hid hk
  have HEab := Lib.hid eab
  have HEba := Lib.hid eba
  have HEbc := Lib.hid ebc
  have HEl1 := Lib.hid el1
  have HEr1 := Lib.hid er1
  have HEm := Lib.hid em
  have HEn := Lib.hid en
  have HEbm := Lib.hid ebm
  have HEl2 := Lib.hid el2
  have HEr2 := Lib.hid er2
  have HEac := Lib.hid eac
  have HEl3 := Lib.hid el3
  have HEr3 := Lib.hid er3
  have HEd := Lib.hid ed
  have HEzz := Lib.hid ezz
  have HEx := Lib.hid ex
  have HEi := Lib.hid ei
  have HEpi := Lib.hid epi
  have HLA := Lib.hid lA
  have HLB := Lib.hid lB
  have HLC := Lib.hid lC
  have HLAB := Lib.hid lAB
  have HLBC := Lib.hid lBC
  have HLP := Lib.hid lP
  have HLQ := Lib.hid lQ
  have HLAC := Lib.hid lAC
  have HLI := Lib.hid lI
  have HL1 := Lib.hid l1
  have HL0 := Lib.hid l0
  have HRA := Lib.hid rA
  have HRB := Lib.hid rB
  have HRC := Lib.hid rC
  have HSs := Lib.hid hs
  have HSt := Lib.hid ht
  have HSu := Lib.hid hu
  clear hk eab eba ebc el1 er1 em en ebm el2 er2 eac el3 er3 ed ezz ex ei epi lA lB lC lAB lBC lP lQ lAC lI l1 l0 rA rB rC hs ht hu
  subst hA
  subst hI
  obtain ⟨hlo1, hlo2⟩ := hlo
  go_enter Try.func8, Try.ntmps8
  have HK0 := Lib.hid (Kp.nil w0)
  have HF0 := Lib.hid (Fr.refl Nob w0)
  go_wp2_with (with_reducible refine wl_stop (o := ⟨some 74, _, _, _, _, _⟩) ?_)
  rw [HREM.out]
  refine wl_bytes (q := s) rfl rfl Try.underlying9 Try.underlying29 Try.underlying5 rfl (by have := HSs.out; unfold maxLen; omega) w0.heap.size (Nat.le_refl _) ?_
  intro cap wb hown hfb hzb
  clear hzb
  have HPB := Lib.hid (BPart.ofOwn hown)
  generalize w0.heap.size = gb at *
  have HKb := Lib.hid (HK0.out.still hfb)
  have HFb := Lib.hid (HF0.out.then hfb)
  clear hown hfb HK0 HF0
  rename Hid (Kp wb _) => HK0
  rename Hid (Fr Nob w0 wb) => HF0
  go_wp2_with fail
  refine (NReduce_v 1 m HKK.out _ s.data.toList 0 _ HPB.out (by have := HSs.out; simpa using this) HRA.out).mono ?_
  rintro e w1 ⟨aa, ca, rfl, hv, hf⟩
  have HK1 := Lib.hid (show Kp w1 [(.slice aa 32 ca, 0)] from HK0.out.add hf hv)
  have HF1 := Lib.hid (HF0.out.then hf)
  clear hf hv HK0 HF0
  clear HPB
  go_wp2_with (with_reducible refine wl_stop (o := ⟨some 81, _, _, _, _, _⟩) ?_)
  refine wl_bytes (q := t) rfl rfl Try.underlying9 Try.underlying29 Try.underlying5 rfl (by have := HSt.out; unfold maxLen; omega) w1.heap.size (Nat.le_refl _) ?_
  intro cap wb hown hfb hzb
  clear hzb
  have HPB := Lib.hid (BPart.ofOwn hown)
  generalize w1.heap.size = gb at *
  have HKb := Lib.hid (HK1.out.still hfb)
  have HFb := Lib.hid (HF1.out.then hfb)
  clear hown hfb HK1 HF1
  rename Hid (Kp wb _) => HK1
  rename Hid (Fr Nob w0 wb) => HF1
  go_wp2_with fail
  refine (NReduce_v 1 m HKK.out _ t.data.toList B _ HPB.out (by have := HSt.out; simpa using this) HRB.out).mono ?_
  rintro e w2 ⟨ab, cb, rfl, hv, hf⟩
  have HK2 := Lib.hid (show Kp w2 [(.slice aa 32 ca, 0), (.slice ab 32 cb, B)] from HK1.out.add hf hv)
  have HF2 := Lib.hid (HF1.out.then hf)
  clear hf hv HK1 HF1
  clear HPB
  go_wp2_with (with_reducible refine wl_stop (o := ⟨some 88, _, _, _, _, _⟩) ?_)
  refine wl_bytes (q := u) rfl rfl Try.underlying9 Try.underlying29 Try.underlying5 rfl (by have := HSu.out; unfold maxLen; omega) w2.heap.size (Nat.le_refl _) ?_
  intro cap wb hown hfb hzb
  clear hzb
  have HPB := Lib.hid (BPart.ofOwn hown)
  generalize w2.heap.size = gb at *
  have HKb := Lib.hid (HK2.out.still hfb)
  have HFb := Lib.hid (HF2.out.then hfb)
  clear hown hfb HK2 HF2
  rename Hid (Kp wb _) => HK2
  rename Hid (Fr Nob w0 wb) => HF2
  go_wp2_with fail
  refine (NReduce_v 1 m HKK.out _ u.data.toList C _ HPB.out (by have := HSu.out; simpa using this) HRC.out).mono ?_
  rintro e w3 ⟨ac, cc, rfl, hv, hf⟩
  have HK3 := Lib.hid (show Kp w3 [(.slice aa 32 ca, 0), (.slice ab 32 cb, B), (.slice ac 32 cc, C)] from HK2.out.add hf hv)
  have HF3 := Lib.hid (HF2.out.then hf)
  clear hf hv HK2 HF2
  clear HPB
  go_wp2_with (with_reducible refine wl_stop (o := ⟨some 107, _, _, _, _, _⟩) ?_)
  refine wl_make rfl rfl Try.underlying29 info_u8 rfl rfl rfl 32 32 (by simp) (by simp) (by omega) (by omega) (by unfold maxLen; omega) ?_
  intro w4 hgz hf hzz
  clear hzz
  have hv : BPart w4 (.slice (some ⟨w3.heap.size, 0, none⟩) 32 32) (be32 0) := ⟨_, 32, 32, rfl, by omega, by rw [be32_zero]; exact Rd.whole hgz⟩
  have HGZ := Lib.hid hgz
  clear hgz
  generalize haz : (some (⟨w3.heap.size, 0, none⟩ : Addr)) = az at *
  clear haz HGZ
  have HK4 := Lib.hid (show Kp w4 [(.slice aa 32 ca, 0), (.slice ab 32 cb, B), (.slice ac 32 cc, C), (.slice az 32 32, 0)] from HK3.out.add hf hv)
  have HF4 := Lib.hid (HF3.out.then hf)
  clear hf hv HK3 HF3
  go_wp2_with (with_reducible refine wl_stop (o := ⟨some 108, _, _, _, _, _⟩) ?_)
  refine wl_make rfl rfl Try.underlying29 info_u8 rfl rfl rfl 32 32 (by simp) (by simp) (by omega) (by omega) (by unfold maxLen; omega) ?_
  intro wm hgo hfm hzo
  clear hzo
  generalize hgw : w4.heap.size = go at *
  have HGW := Lib.hid hgw
  clear hgw
  obtain ⟨z31, hz1, hz2⟩ := hgo.ready (i := 31) (by simp)
  have HGO := Lib.hid hgo
  have HFM := Lib.hid hfm
  clear hgo hfm
  go_wp2_with fail
  obtain ⟨w5, hwn⟩ : ∃ x, x = wm.setCell ⟨go, 31, none⟩ (.int .u8 1) := ⟨_, rfl⟩
  have hgs := HGO.out.set 31 (.int .u8 1)
  have hfs : Fr Nob w4 (wm.setCell ⟨go, 31, none⟩ (.int .u8 1)) := HFM.out.trans ((Fr.refl (One go) wm).setCell go 31 none _ (fun _ => rfl)) (fun j hj hjg => by have e : j = go := hjg; have := HGW.out; omega)
  rw [← hwn] at hgs hfs ⊢
  clear hwn hz1 hz2
  have hf := hfs
  clear hfs
  have hv : BPart w5 (.slice (some ⟨go, 0, none⟩) 32 32) (be32 1) := ⟨_, 32, 32, rfl, by omega, by rw [be32_one]; exact Rd.whole hgs⟩
  clear hgs HGO HFM HGW
  generalize (some (⟨go, 0, none⟩ : Addr)) = aone at *
  have HK5 := Lib.hid (show Kp w5 [(.slice aa 32 ca, 0), (.slice ab 32 cb, B), (.slice ac 32 cc, C), (.slice az 32 32, 0), (.slice aone 32 32, 1)] from HK4.out.add hf hv)
  have HF5 := Lib.hid (HF4.out.then hf)
  clear hf hv HK4 HF4
  refine (NAdd_v 1 m HKK.out _ _ 0 B AB _ (HK5.out.get 0 rfl) (HK5.out.get 1 rfl) HL0.out HLB.out HEab.out).mono ?_
  rintro e w6 ⟨aab, cab, rfl, hv, hf⟩
  have HK6 := Lib.hid (show Kp w6 [(.slice aa 32 ca, 0), (.slice ab 32 cb, B), (.slice ac 32 cc, C), (.slice az 32 32, 0), (.slice aone 32 32, 1), (.slice aab 32 cab, AB)] from HK5.out.add hf hv)
  have HF6 := Lib.hid (HF5.out.then hf)
  clear hf hv HK5 HF5
  go_wp2_with fail
  refine (NAdd_v 1 m HKK.out _ _ B 0 AB _ (HK6.out.get 1 rfl) (HK6.out.get 0 rfl) HLB.out HL0.out HEba.out).mono ?_
  rintro e w7 ⟨aba, cba, rfl, hv, hf⟩
  have HK7 := Lib.hid (show Kp w7 [(.slice aa 32 ca, 0), (.slice ab 32 cb, B), (.slice ac 32 cc, C), (.slice az 32 32, 0), (.slice aone 32 32, 1), (.slice aab 32 cab, AB), (.slice aba 32 cba, AB)] from HK6.out.add hf hv)
  have HF7 := Lib.hid (HF6.out.then hf)
  clear hf hv HK6 HF6
  go_wp2_with fail
  refine (NAdd_v 1 m HKK.out _ _ B C BC _ (HK7.out.get 1 rfl) (HK7.out.get 2 rfl) HLB.out HLC.out HEbc.out).mono ?_
  rintro e w8 ⟨abc, cbc, rfl, hv, hf⟩
  have HK8 := Lib.hid (show Kp w8 [(.slice aa 32 ca, 0), (.slice ab 32 cb, B), (.slice ac 32 cc, C), (.slice az 32 32, 0), (.slice aone 32 32, 1), (.slice aab 32 cab, AB), (.slice aba 32 cba, AB), (.slice abc 32 cbc, BC)] from HK7.out.add hf hv)
  have HF8 := Lib.hid (HF7.out.then hf)
  clear hf hv HK7 HF7
  go_wp2_with fail
  refine (NAdd_v 1 m HKK.out _ _ AB C S _ (HK8.out.get 5 rfl) (HK8.out.get 2 rfl) HLAB.out HLC.out HEl1.out).mono ?_
  rintro e w9 ⟨al1, cl1, rfl, hv, hf⟩
  have HK9 := Lib.hid (show Kp w9 [(.slice aa 32 ca, 0), (.slice ab 32 cb, B), (.slice ac 32 cc, C), (.slice az 32 32, 0), (.slice aone 32 32, 1), (.slice aab 32 cab, AB), (.slice aba 32 cba, AB), (.slice abc 32 cbc, BC), (.slice al1 32 cl1, S)] from HK8.out.add hf hv)
  have HF9 := Lib.hid (HF8.out.then hf)
  clear hf hv HK8 HF8
  go_wp2_with fail
  refine (NAdd_v 1 m HKK.out _ _ 0 BC S _ (HK9.out.get 0 rfl) (HK9.out.get 7 rfl) HL0.out HLBC.out HEr1.out).mono ?_
  rintro e w10 ⟨ar1, cr1, rfl, hv, hf⟩
  have HK10 := Lib.hid (show Kp w10 [(.slice aa 32 ca, 0), (.slice ab 32 cb, B), (.slice ac 32 cc, C), (.slice az 32 32, 0), (.slice aone 32 32, 1), (.slice aab 32 cab, AB), (.slice aba 32 cba, AB), (.slice abc 32 cbc, BC), (.slice al1 32 cl1, S), (.slice ar1 32 cr1, S)] from HK9.out.add hf hv)
  have HF10 := Lib.hid (HF9.out.then hf)
  clear hf hv HK9 HF9
  have hc0 := run_string (P := Try.prog) (HK10.out.rd 5 rfl) cab Try.underlying29 Try.underlying5 Try.underlying9
  have hc1 := run_string (P := Try.prog) (HK10.out.rd 6 rfl) cba Try.underlying29 Try.underlying5 Try.underlying9
  have hc2 := run_string (P := Try.prog) (HK10.out.rd 8 rfl) cl1 Try.underlying29 Try.underlying5 Try.underlying9
  have hc3 := run_string (P := Try.prog) (HK10.out.rd 9 rfl) cr1 Try.underlying29 Try.underlying5 Try.underlying9
  go_wp2_with fail
  refine (NMul_v 1 m HKK.out _ _ 0 B P _ (HK10.out.get 0 rfl) (HK10.out.get 1 rfl) HL0.out HLB.out HEm.out).mono ?_
  rintro e w11 ⟨am, cm, rfl, hv, hf⟩
  have HK11 := Lib.hid (show Kp w11 [(.slice aa 32 ca, 0), (.slice ab 32 cb, B), (.slice ac 32 cc, C), (.slice az 32 32, 0), (.slice aone 32 32, 1), (.slice aab 32 cab, AB), (.slice aba 32 cba, AB), (.slice abc 32 cbc, BC), (.slice al1 32 cl1, S), (.slice ar1 32 cr1, S), (.slice am 32 cm, P)] from HK10.out.add hf hv)
  have HF11 := Lib.hid (HF10.out.then hf)
  clear hf hv HK10 HF10
  clear hc0 hc1 hc2 hc3
  go_wp2_with fail
  refine (NMul_v 1 m HKK.out _ _ B 0 P _ (HK11.out.get 1 rfl) (HK11.out.get 0 rfl) HLB.out HL0.out HEn.out).mono ?_
  rintro e w12 ⟨an, cn, rfl, hv, hf⟩
  have HK12 := Lib.hid (show Kp w12 [(.slice aa 32 ca, 0), (.slice ab 32 cb, B), (.slice ac 32 cc, C), (.slice az 32 32, 0), (.slice aone 32 32, 1), (.slice aab 32 cab, AB), (.slice aba 32 cba, AB), (.slice abc 32 cbc, BC), (.slice al1 32 cl1, S), (.slice ar1 32 cr1, S), (.slice am 32 cm, P), (.slice an 32 cn, P)] from HK11.out.add hf hv)
  have HF12 := Lib.hid (HF11.out.then hf)
  clear hf hv HK11 HF11
  go_wp2_with fail
  refine (NMul_v 1 m HKK.out _ _ B C Q _ (HK12.out.get 1 rfl) (HK12.out.get 2 rfl) HLB.out HLC.out HEbm.out).mono ?_
  rintro e w13 ⟨abm, cbm, rfl, hv, hf⟩
  have HK13 := Lib.hid (show Kp w13 [(.slice aa 32 ca, 0), (.slice ab 32 cb, B), (.slice ac 32 cc, C), (.slice az 32 32, 0), (.slice aone 32 32, 1), (.slice aab 32 cab, AB), (.slice aba 32 cba, AB), (.slice abc 32 cbc, BC), (.slice al1 32 cl1, S), (.slice ar1 32 cr1, S), (.slice am 32 cm, P), (.slice an 32 cn, P), (.slice abm 32 cbm, Q)] from HK12.out.add hf hv)
  have HF13 := Lib.hid (HF12.out.then hf)
  clear hf hv HK12 HF12
  go_wp2_with fail
  refine (NMul_v 1 m HKK.out _ _ P C T _ (HK13.out.get 10 rfl) (HK13.out.get 2 rfl) HLP.out HLC.out HEl2.out).mono ?_
  rintro e w14 ⟨al2, cl2, rfl, hv, hf⟩
  have HK14 := Lib.hid (show Kp w14 [(.slice aa 32 ca, 0), (.slice ab 32 cb, B), (.slice ac 32 cc, C), (.slice az 32 32, 0), (.slice aone 32 32, 1), (.slice aab 32 cab, AB), (.slice aba 32 cba, AB), (.slice abc 32 cbc, BC), (.slice al1 32 cl1, S), (.slice ar1 32 cr1, S), (.slice am 32 cm, P), (.slice an 32 cn, P), (.slice abm 32 cbm, Q), (.slice al2 32 cl2, T)] from HK13.out.add hf hv)
  have HF14 := Lib.hid (HF13.out.then hf)
  clear hf hv HK13 HF13
  go_wp2_with fail
  refine (NMul_v 1 m HKK.out _ _ 0 Q T _ (HK14.out.get 0 rfl) (HK14.out.get 12 rfl) HL0.out HLQ.out HEr2.out).mono ?_
  rintro e w15 ⟨ar2, cr2, rfl, hv, hf⟩
  have HK15 := Lib.hid (show Kp w15 [(.slice aa 32 ca, 0), (.slice ab 32 cb, B), (.slice ac 32 cc, C), (.slice az 32 32, 0), (.slice aone 32 32, 1), (.slice aab 32 cab, AB), (.slice aba 32 cba, AB), (.slice abc 32 cbc, BC), (.slice al1 32 cl1, S), (.slice ar1 32 cr1, S), (.slice am 32 cm, P), (.slice an 32 cn, P), (.slice abm 32 cbm, Q), (.slice al2 32 cl2, T), (.slice ar2 32 cr2, T)] from HK14.out.add hf hv)
  have HF15 := Lib.hid (HF14.out.then hf)
  clear hf hv HK14 HF14
  have hc0 := run_string (P := Try.prog) (HK15.out.rd 10 rfl) cm Try.underlying29 Try.underlying5 Try.underlying9
  have hc1 := run_string (P := Try.prog) (HK15.out.rd 11 rfl) cn Try.underlying29 Try.underlying5 Try.underlying9
  have hc2 := run_string (P := Try.prog) (HK15.out.rd 13 rfl) cl2 Try.underlying29 Try.underlying5 Try.underlying9
  have hc3 := run_string (P := Try.prog) (HK15.out.rd 14 rfl) cr2 Try.underlying29 Try.underlying5 Try.underlying9
  go_wp2_with fail
  refine (NMul_v 1 m HKK.out _ _ 0 C AC _ (HK15.out.get 0 rfl) (HK15.out.get 2 rfl) HL0.out HLC.out HEac.out).mono ?_
  rintro e w16 ⟨aac, cac, rfl, hv, hf⟩
  have HK16 := Lib.hid (show Kp w16 [(.slice aa 32 ca, 0), (.slice ab 32 cb, B), (.slice ac 32 cc, C), (.slice az 32 32, 0), (.slice aone 32 32, 1), (.slice aab 32 cab, AB), (.slice aba 32 cba, AB), (.slice abc 32 cbc, BC), (.slice al1 32 cl1, S), (.slice ar1 32 cr1, S), (.slice am 32 cm, P), (.slice an 32 cn, P), (.slice abm 32 cbm, Q), (.slice al2 32 cl2, T), (.slice ar2 32 cr2, T), (.slice aac 32 cac, AC)] from HK15.out.add hf hv)
  have HF16 := Lib.hid (HF15.out.then hf)
  clear hf hv HK15 HF15
  clear hc0 hc1 hc2 hc3
  go_wp2_with fail
  refine (NMul_v 1 m HKK.out _ _ 0 BC D _ (HK16.out.get 0 rfl) (HK16.out.get 7 rfl) HL0.out HLBC.out HEl3.out).mono ?_
  rintro e w17 ⟨al3, cl3, rfl, hv, hf⟩
  have HK17 := Lib.hid (show Kp w17 [(.slice aa 32 ca, 0), (.slice ab 32 cb, B), (.slice ac 32 cc, C), (.slice az 32 32, 0), (.slice aone 32 32, 1), (.slice aab 32 cab, AB), (.slice aba 32 cba, AB), (.slice abc 32 cbc, BC), (.slice al1 32 cl1, S), (.slice ar1 32 cr1, S), (.slice am 32 cm, P), (.slice an 32 cn, P), (.slice abm 32 cbm, Q), (.slice al2 32 cl2, T), (.slice ar2 32 cr2, T), (.slice aac 32 cac, AC), (.slice al3 32 cl3, D)] from HK16.out.add hf hv)
  have HF17 := Lib.hid (HF16.out.then hf)
  clear hf hv HK16 HF16
  go_wp2_with fail
  refine (NAdd_v 1 m HKK.out _ _ P AC D _ (HK17.out.get 10 rfl) (HK17.out.get 15 rfl) HLP.out HLAC.out HEr3.out).mono ?_
  rintro e w18 ⟨ar3, cr3, rfl, hv, hf⟩
  have HK18 := Lib.hid (show Kp w18 [(.slice aa 32 ca, 0), (.slice ab 32 cb, B), (.slice ac 32 cc, C), (.slice az 32 32, 0), (.slice aone 32 32, 1), (.slice aab 32 cab, AB), (.slice aba 32 cba, AB), (.slice abc 32 cbc, BC), (.slice al1 32 cl1, S), (.slice ar1 32 cr1, S), (.slice am 32 cm, P), (.slice an 32 cn, P), (.slice abm 32 cbm, Q), (.slice al2 32 cl2, T), (.slice ar2 32 cr2, T), (.slice aac 32 cac, AC), (.slice al3 32 cl3, D), (.slice ar3 32 cr3, D)] from HK17.out.add hf hv)
  have HF18 := Lib.hid (HF17.out.then hf)
  clear hf hv HK17 HF17
  have hc0 := run_string (P := Try.prog) (HK18.out.rd 16 rfl) cl3 Try.underlying29 Try.underlying5 Try.underlying9
  have hc1 := run_string (P := Try.prog) (HK18.out.rd 17 rfl) cr3 Try.underlying29 Try.underlying5 Try.underlying9
  go_wp2_with fail
  refine (NSub_v 1 m HKK.out _ _ AB B 0 _ (HK18.out.get 5 rfl) (HK18.out.get 1 rfl) HLAB.out HLB.out HEd.out).mono ?_
  rintro e w19 ⟨ad, cd, rfl, hv, hf⟩
  have HK19 := Lib.hid (show Kp w19 [(.slice aa 32 ca, 0), (.slice ab 32 cb, B), (.slice ac 32 cc, C), (.slice az 32 32, 0), (.slice aone 32 32, 1), (.slice aab 32 cab, AB), (.slice aba 32 cba, AB), (.slice abc 32 cbc, BC), (.slice al1 32 cl1, S), (.slice ar1 32 cr1, S), (.slice am 32 cm, P), (.slice an 32 cn, P), (.slice abm 32 cbm, Q), (.slice al2 32 cl2, T), (.slice ar2 32 cr2, T), (.slice aac 32 cac, AC), (.slice al3 32 cl3, D), (.slice ar3 32 cr3, D), (.slice ad 32 cd, 0)] from HK18.out.add hf hv)
  have HF19 := Lib.hid (HF18.out.then hf)
  clear hf hv HK18 HF18
  clear hc0 hc1
  go_wp2_with fail
  refine (NSub_v 1 m HKK.out _ _ 0 0 0 _ (HK19.out.get 0 rfl) (HK19.out.get 0 rfl) HL0.out HL0.out HEzz.out).mono ?_
  rintro e w20 ⟨azz, czz, rfl, hv, hf⟩
  have HK20 := Lib.hid (show Kp w20 [(.slice aa 32 ca, 0), (.slice ab 32 cb, B), (.slice ac 32 cc, C), (.slice az 32 32, 0), (.slice aone 32 32, 1), (.slice aab 32 cab, AB), (.slice aba 32 cba, AB), (.slice abc 32 cbc, BC), (.slice al1 32 cl1, S), (.slice ar1 32 cr1, S), (.slice am 32 cm, P), (.slice an 32 cn, P), (.slice abm 32 cbm, Q), (.slice al2 32 cl2, T), (.slice ar2 32 cr2, T), (.slice aac 32 cac, AC), (.slice al3 32 cl3, D), (.slice ar3 32 cr3, D), (.slice ad 32 cd, 0), (.slice azz 32 czz, 0)] from HK19.out.add hf hv)
  have HF20 := Lib.hid (HF19.out.then hf)
  clear hf hv HK19 HF19
  go_wp2_with fail
  refine (NMul_v 1 m HKK.out _ _ 0 1 0 _ (HK20.out.get 0 rfl) (HK20.out.get 4 rfl) HL0.out HL1.out HEx.out).mono ?_
  rintro e w21 ⟨ax, cx, rfl, hv, hf⟩
  have HK21 := Lib.hid (show Kp w21 [(.slice aa 32 ca, 0), (.slice ab 32 cb, B), (.slice ac 32 cc, C), (.slice az 32 32, 0), (.slice aone 32 32, 1), (.slice aab 32 cab, AB), (.slice aba 32 cba, AB), (.slice abc 32 cbc, BC), (.slice al1 32 cl1, S), (.slice ar1 32 cr1, S), (.slice am 32 cm, P), (.slice an 32 cn, P), (.slice abm 32 cbm, Q), (.slice al2 32 cl2, T), (.slice ar2 32 cr2, T), (.slice aac 32 cac, AC), (.slice al3 32 cl3, D), (.slice ar3 32 cr3, D), (.slice ad 32 cd, 0), (.slice azz 32 czz, 0), (.slice ax 32 cx, 0)] from HK20.out.add hf hv)
  have HF21 := Lib.hid (HF20.out.then hf)
  clear hf hv HK20 HF20
  have hc0 := run_string (P := Try.prog) (HK21.out.rd 18 rfl) cd Try.underlying29 Try.underlying5 Try.underlying9
  have hc1 := run_string (P := Try.prog) (HK21.out.rd 0 rfl) ca Try.underlying29 Try.underlying5 Try.underlying9
  have hc2 := run_string (P := Try.prog) (HK21.out.rd 19 rfl) czz Try.underlying29 Try.underlying5 Try.underlying9
  have hc3 := run_string (P := Try.prog) (HK21.out.rd 3 rfl) 32 Try.underlying29 Try.underlying5 Try.underlying9
  have hc4 := run_string (P := Try.prog) (HK21.out.rd 20 rfl) cx Try.underlying29 Try.underlying5 Try.underlying9
  go_wp2_with fail
  refine (NInv_v 1 m HKK.out _ 0 0 _ (HK21.out.get 0 rfl) HL0.out HEi.out).mono ?_
  rintro e w22 ⟨ai, ci, rfl, hv, hf⟩
  have HK22 := Lib.hid (show Kp w22 [(.slice aa 32 ca, 0), (.slice ab 32 cb, B), (.slice ac 32 cc, C), (.slice az 32 32, 0), (.slice aone 32 32, 1), (.slice aab 32 cab, AB), (.slice aba 32 cba, AB), (.slice abc 32 cbc, BC), (.slice al1 32 cl1, S), (.slice ar1 32 cr1, S), (.slice am 32 cm, P), (.slice an 32 cn, P), (.slice abm 32 cbm, Q), (.slice al2 32 cl2, T), (.slice ar2 32 cr2, T), (.slice aac 32 cac, AC), (.slice al3 32 cl3, D), (.slice ar3 32 cr3, D), (.slice ad 32 cd, 0), (.slice azz 32 czz, 0), (.slice ax 32 cx, 0), (.slice ai 32 ci, 0)] from HK21.out.add hf hv)
  have HF22 := Lib.hid (HF21.out.then hf)
  clear hf hv HK21 HF21
  clear hc0 hc1 hc2 hc3 hc4
  go_wp2_with fail
  refine (NMul_v 1 m HKK.out _ _ 0 0 PI _ (HK22.out.get 0 rfl) (HK22.out.get 21 rfl) HL0.out HL0.out HEpi.out).mono ?_
  rintro e w23 ⟨api, cpi, rfl, hv, hf⟩
  have HK23 := Lib.hid (show Kp w23 [(.slice aa 32 ca, 0), (.slice ab 32 cb, B), (.slice ac 32 cc, C), (.slice az 32 32, 0), (.slice aone 32 32, 1), (.slice aab 32 cab, AB), (.slice aba 32 cba, AB), (.slice abc 32 cbc, BC), (.slice al1 32 cl1, S), (.slice ar1 32 cr1, S), (.slice am 32 cm, P), (.slice an 32 cn, P), (.slice abm 32 cbm, Q), (.slice al2 32 cl2, T), (.slice ar2 32 cr2, T), (.slice aac 32 cac, AC), (.slice al3 32 cl3, D), (.slice ar3 32 cr3, D), (.slice ad 32 cd, 0), (.slice azz 32 czz, 0), (.slice ax 32 cx, 0), (.slice ai 32 ci, 0), (.slice api 32 cpi, PI)] from HK22.out.add hf hv)
  have HF23 := Lib.hid (HF22.out.then hf)
  clear hf hv HK22 HF22
  have hc0 := run_string (P := Try.prog) (HK23.out.rd 0 rfl) ca Try.underlying29 Try.underlying5 Try.underlying9
  have hc1 := run_string (P := Try.prog) (HK23.out.rd 3 rfl) 32 Try.underlying29 Try.underlying5 Try.underlying9
  have hc2 := run_string (P := Try.prog) (HK23.out.rd 22 rfl) cpi Try.underlying29 Try.underlying5 Try.underlying9
  have hc3 := run_string (P := Try.prog) (HK23.out.rd 4 rfl) 32 Try.underlying29 Try.underlying5 Try.underlying9
  have hc4 := run_string (P := Try.prog) (HK23.out.rd 21 rfl) ci Try.underlying29 Try.underlying5 Try.underlying9
  have HFE := Lib.hid HF23.out
  go_wp2_with fail
  go_ret
  exact ⟨rfl, HFE.out⟩

set_option maxHeartbeats 32000000 in
set_option maxRecDepth 1000000 in
theorem NumLaws_k1_z_p (kd : Int) (m : Md) (hk : KindOf 1 m) (s t u : ByteArray) (w0 : World) (hs : s.size ≤ 1024) (ht : t.size ≤ 1024) (hu : u.size ≤ 1024) (A B C AB BC S P Q T AC D I PI : Nat) (eab : (A + B) % m.M = AB) (eba : (B + A) % m.M = AB) (ebc : (B + C) % m.M = BC) (el1 : (AB + C) % m.M = S) (er1 : (A + BC) % m.M = S) (em : A * B % m.M = P) (en : B * A % m.M = P) (ebm : B * C % m.M = Q) (el2 : P * C % m.M = T) (er2 : A * Q % m.M = T) (eac : A * C % m.M = AC) (el3 : A * BC % m.M = D) (er3 : (P + AC) % m.M = D) (ed : (AB + (m.M - B)) % m.M = A) (ezz : (A + (m.M - A)) % m.M = 0) (ex : A * 1 % m.M = A) (ei : A ^ (m.M - 2) % m.M = I) (epi : A * I % m.M = PI) (lA : A < m.M) (lB : B < m.M) (lC : C < m.M) (lAB : AB < m.M) (lBC : BC < m.M) (lP : P < m.M) (lQ : Q < m.M) (lAC : AC < m.M) (lI : I < m.M) (l1 : 1 < m.M) (l0 : 0 < m.M) (rA : beN s.data.toList % m.M = A) (rB : beN t.data.toList % m.M = B) (rC : beN u.data.toList % m.M = C) (hA : A = 0) (hI : I = 0) (hkd : ¬ (kd < 0)) (hlo : -9223372036854775808 ≤ kd ∧ kd ≤ 9223372036854775807) (hrem : kd % 2 = 1) :
    Calls Try.prog 8 #[.int .i64 kd, .string s, .string t, .string u] w0 fun e w' => e = .returned (.bool true) ∧ Fr Nob w0 w' := by
  have hgs : ¬ ((1024 : Int) < (s.size : Int)) := by omega
  have hgt : ¬ ((1024 : Int) < (t.size : Int)) := by omega
  have hgu : ¬ ((1024 : Int) < (u.size : Int)) := by omega
  have HREM := Lib.hid hrem
  clear hrem
  have HKK := Lib.hid hk
  have HEab := Lib.hid eab
  have HEba := Lib.hid eba
  have HEbc := Lib.hid ebc
  have HEl1 := Lib.hid el1
  have HEr1 := Lib.hid er1
  have HEm := Lib.hid em
  have HEn := Lib.hid en
  have HEbm := Lib.hid ebm
  have HEl2 := Lib.hid el2
  have HEr2 := Lib.hid er2
  have HEac := Lib.hid eac
  have HEl3 := Lib.hid el3
  have HEr3 := Lib.hid er3
  have HEd := Lib.hid ed
  have HEzz := Lib.hid ezz
  have HEx := Lib.hid ex
  have HEi := Lib.hid ei
  have HEpi := Lib.hid epi
  have HLA := Lib.hid lA
  have HLB := Lib.hid lB
  have HLC := Lib.hid lC
  have HLAB := Lib.hid lAB
  have HLBC := Lib.hid lBC
  have HLP := Lib.hid lP
  have HLQ := Lib.hid lQ
  have HLAC := Lib.hid lAC
  have HLI := Lib.hid lI
  have HL1 := Lib.hid l1
  have HL0 := Lib.hid l0
  have HRA := Lib.hid rA
  have HRB := Lib.hid rB
  have HRC := Lib.hid rC
  have HSs := Lib.hid hs
  have HSt := Lib.hid ht
  have HSu := Lib.hid hu
  clear hk eab eba ebc el1 er1 em en ebm el2 er2 eac el3 er3 ed ezz ex ei epi lA lB lC lAB lBC lP lQ lAC lI l1 l0 rA rB rC hs ht hu
  subst hA
  subst hI
  obtain ⟨hlo1, hlo2⟩ := hlo
  go_enter Try.func8, Try.ntmps8
  have HK0 := Lib.hid (Kp.nil w0)
  have HF0 := Lib.hid (Fr.refl Nob w0)
  go_wp2_with (with_reducible refine wl_stop (o := ⟨some 74, _, _, _, _, _⟩) ?_)
  rw [HREM.out]
  refine wl_bytes (q := s) rfl rfl Try.underlying9 Try.underlying29 Try.underlying5 rfl (by have := HSs.out; unfold maxLen; omega) w0.heap.size (Nat.le_refl _) ?_
  intro cap wb hown hfb hzb
  clear hzb
  have HPB := Lib.hid (BPart.ofOwn hown)
  generalize w0.heap.size = gb at *
  have HKb := Lib.hid (HK0.out.still hfb)
  have HFb := Lib.hid (HF0.out.then hfb)
  clear hown hfb HK0 HF0
  rename Hid (Kp wb _) => HK0
  rename Hid (Fr Nob w0 wb) => HF0
  go_wp2_with fail
  refine (NReduce_v 1 m HKK.out _ s.data.toList 0 _ HPB.out (by have := HSs.out; simpa using this) HRA.out).mono ?_
  rintro e w1 ⟨aa, ca, rfl, hv, hf⟩
  have HK1 := Lib.hid (show Kp w1 [(.slice aa 32 ca, 0)] from HK0.out.add hf hv)
  have HF1 := Lib.hid (HF0.out.then hf)
  clear hf hv HK0 HF0
  clear HPB
  go_wp2_with (with_reducible refine wl_stop (o := ⟨some 81, _, _, _, _, _⟩) ?_)
  refine wl_bytes (q := t) rfl rfl Try.underlying9 Try.underlying29 Try.underlying5 rfl (by have := HSt.out; unfold maxLen; omega) w1.heap.size (Nat.le_refl _) ?_
  intro cap wb hown hfb hzb
  clear hzb
  have HPB := Lib.hid (BPart.ofOwn hown)
  generalize w1.heap.size = gb at *
  have HKb := Lib.hid (HK1.out.still hfb)
  have HFb := Lib.hid (HF1.out.then hfb)
  clear hown hfb HK1 HF1
  rename Hid (Kp wb _) => HK1
  rename Hid (Fr Nob w0 wb) => HF1
  go_wp2_with fail
  refine (NReduce_v 1 m HKK.out _ t.data.toList B _ HPB.out (by have := HSt.out; simpa using this) HRB.out).mono ?_
  rintro e w2 ⟨ab, cb, rfl, hv, hf⟩
  have HK2 := Lib.hid (show Kp w2 [(.slice aa 32 ca, 0), (.slice ab 32 cb, B)] from HK1.out.add hf hv)
  have HF2 := Lib.hid (HF1.out.then hf)
  clear hf hv HK1 HF1
  clear HPB
  go_wp2_with (with_reducible refine wl_stop (o := ⟨some 88, _, _, _, _, _⟩) ?_)
  refine wl_bytes (q := u) rfl rfl Try.underlying9 Try.underlying29 Try.underlying5 rfl (by have := HSu.out; unfold maxLen; omega) w2.heap.size (Nat.le_refl _) ?_
  intro cap wb hown hfb hzb
  clear hzb
  have HPB := Lib.hid (BPart.ofOwn hown)
  generalize w2.heap.size = gb at *
  have HKb := Lib.hid (HK2.out.still hfb)
  have HFb := Lib.hid (HF2.out.then hfb)
  clear hown hfb HK2 HF2
  rename Hid (Kp wb _) => HK2
  rename Hid (Fr Nob w0 wb) => HF2
  go_wp2_with fail
  refine (NReduce_v 1 m HKK.out _ u.data.toList C _ HPB.out (by have := HSu.out; simpa using this) HRC.out).mono ?_
  rintro e w3 ⟨ac, cc, rfl, hv, hf⟩
  have HK3 := Lib.hid (show Kp w3 [(.slice aa 32 ca, 0), (.slice ab 32 cb, B), (.slice ac 32 cc, C)] from HK2.out.add hf hv)
  have HF3 := Lib.hid (HF2.out.then hf)
  clear hf hv HK2 HF2
  clear HPB
  go_wp2_with (with_reducible refine wl_stop (o := ⟨some 107, _, _, _, _, _⟩) ?_)
  refine wl_make rfl rfl Try.underlying29 info_u8 rfl rfl rfl 32 32 (by simp) (by simp) (by omega) (by omega) (by unfold maxLen; omega) ?_
  intro w4 hgz hf hzz
  clear hzz
  have hv : BPart w4 (.slice (some ⟨w3.heap.size, 0, none⟩) 32 32) (be32 0) := ⟨_, 32, 32, rfl, by omega, by rw [be32_zero]; exact Rd.whole hgz⟩
  have HGZ := Lib.hid hgz
  clear hgz
  generalize haz : (some (⟨w3.heap.size, 0, none⟩ : Addr)) = az at *
  clear haz HGZ
  have HK4 := Lib.hid (show Kp w4 [(.slice aa 32 ca, 0), (.slice ab 32 cb, B), (.slice ac 32 cc, C), (.slice az 32 32, 0)] from HK3.out.add hf hv)
  have HF4 := Lib.hid (HF3.out.then hf)
  clear hf hv HK3 HF3
  go_wp2_with (with_reducible refine wl_stop (o := ⟨some 108, _, _, _, _, _⟩) ?_)
  refine wl_make rfl rfl Try.underlying29 info_u8 rfl rfl rfl 32 32 (by simp) (by simp) (by omega) (by omega) (by unfold maxLen; omega) ?_
  intro wm hgo hfm hzo
  clear hzo
  generalize hgw : w4.heap.size = go at *
  have HGW := Lib.hid hgw
  clear hgw
  obtain ⟨z31, hz1, hz2⟩ := hgo.ready (i := 31) (by simp)
  have HGO := Lib.hid hgo
  have HFM := Lib.hid hfm
  clear hgo hfm
  go_wp2_with fail
  obtain ⟨w5, hwn⟩ : ∃ x, x = wm.setCell ⟨go, 31, none⟩ (.int .u8 1) := ⟨_, rfl⟩
  have hgs := HGO.out.set 31 (.int .u8 1)
  have hfs : Fr Nob w4 (wm.setCell ⟨go, 31, none⟩ (.int .u8 1)) := HFM.out.trans ((Fr.refl (One go) wm).setCell go 31 none _ (fun _ => rfl)) (fun j hj hjg => by have e : j = go := hjg; have := HGW.out; omega)
  rw [← hwn] at hgs hfs ⊢
  clear hwn hz1 hz2
  have hf := hfs
  clear hfs
  have hv : BPart w5 (.slice (some ⟨go, 0, none⟩) 32 32) (be32 1) := ⟨_, 32, 32, rfl, by omega, by rw [be32_one]; exact Rd.whole hgs⟩
  clear hgs HGO HFM HGW
  generalize (some (⟨go, 0, none⟩ : Addr)) = aone at *
  have HK5 := Lib.hid (show Kp w5 [(.slice aa 32 ca, 0), (.slice ab 32 cb, B), (.slice ac 32 cc, C), (.slice az 32 32, 0), (.slice aone 32 32, 1)] from HK4.out.add hf hv)
  have HF5 := Lib.hid (HF4.out.then hf)
  clear hf hv HK4 HF4
  refine (NAdd_v 1 m HKK.out _ _ 0 B AB _ (HK5.out.get 0 rfl) (HK5.out.get 1 rfl) HL0.out HLB.out HEab.out).mono ?_
  rintro e w6 ⟨aab, cab, rfl, hv, hf⟩
  have HK6 := Lib.hid (show Kp w6 [(.slice aa 32 ca, 0), (.slice ab 32 cb, B), (.slice ac 32 cc, C), (.slice az 32 32, 0), (.slice aone 32 32, 1), (.slice aab 32 cab, AB)] from HK5.out.add hf hv)
  have HF6 := Lib.hid (HF5.out.then hf)
  clear hf hv HK5 HF5
  go_wp2_with fail
  refine (NAdd_v 1 m HKK.out _ _ B 0 AB _ (HK6.out.get 1 rfl) (HK6.out.get 0 rfl) HLB.out HL0.out HEba.out).mono ?_
  rintro e w7 ⟨aba, cba, rfl, hv, hf⟩
  have HK7 := Lib.hid (show Kp w7 [(.slice aa 32 ca, 0), (.slice ab 32 cb, B), (.slice ac 32 cc, C), (.slice az 32 32, 0), (.slice aone 32 32, 1), (.slice aab 32 cab, AB), (.slice aba 32 cba, AB)] from HK6.out.add hf hv)
  have HF7 := Lib.hid (HF6.out.then hf)
  clear hf hv HK6 HF6
  go_wp2_with fail
  refine (NAdd_v 1 m HKK.out _ _ B C BC _ (HK7.out.get 1 rfl) (HK7.out.get 2 rfl) HLB.out HLC.out HEbc.out).mono ?_
  rintro e w8 ⟨abc, cbc, rfl, hv, hf⟩
  have HK8 := Lib.hid (show Kp w8 [(.slice aa 32 ca, 0), (.slice ab 32 cb, B), (.slice ac 32 cc, C), (.slice az 32 32, 0), (.slice aone 32 32, 1), (.slice aab 32 cab, AB), (.slice aba 32 cba, AB), (.slice abc 32 cbc, BC)] from HK7.out.add hf hv)
  have HF8 := Lib.hid (HF7.out.then hf)
  clear hf hv HK7 HF7
  go_wp2_with fail
  refine (NAdd_v 1 m HKK.out _ _ AB C S _ (HK8.out.get 5 rfl) (HK8.out.get 2 rfl) HLAB.out HLC.out HEl1.out).mono ?_
  rintro e w9 ⟨al1, cl1, rfl, hv, hf⟩
  have HK9 := Lib.hid (show Kp w9 [(.slice aa 32 ca, 0), (.slice ab 32 cb, B), (.slice ac 32 cc, C), (.slice az 32 32, 0), (.slice aone 32 32, 1), (.slice aab 32 cab, AB), (.slice aba 32 cba, AB), (.slice abc 32 cbc, BC), (.slice al1 32 cl1, S)] from HK8.out.add hf hv)
  have HF9 := Lib.hid (HF8.out.then hf)
  clear hf hv HK8 HF8
  go_wp2_with fail
  refine (NAdd_v 1 m HKK.out _ _ 0 BC S _ (HK9.out.get 0 rfl) (HK9.out.get 7 rfl) HL0.out HLBC.out HEr1.out).mono ?_
  rintro e w10 ⟨ar1, cr1, rfl, hv, hf⟩
  have HK10 := Lib.hid (show Kp w10 [(.slice aa 32 ca, 0), (.slice ab 32 cb, B), (.slice ac 32 cc, C), (.slice az 32 32, 0), (.slice aone 32 32, 1), (.slice aab 32 cab, AB), (.slice aba 32 cba, AB), (.slice abc 32 cbc, BC), (.slice al1 32 cl1, S), (.slice ar1 32 cr1, S)] from HK9.out.add hf hv)
  have HF10 := Lib.hid (HF9.out.then hf)
  clear hf hv HK9 HF9
  have hc0 := run_string (P := Try.prog) (HK10.out.rd 5 rfl) cab Try.underlying29 Try.underlying5 Try.underlying9
  have hc1 := run_string (P := Try.prog) (HK10.out.rd 6 rfl) cba Try.underlying29 Try.underlying5 Try.underlying9
  have hc2 := run_string (P := Try.prog) (HK10.out.rd 8 rfl) cl1 Try.underlying29 Try.underlying5 Try.underlying9
  have hc3 := run_string (P := Try.prog) (HK10.out.rd 9 rfl) cr1 Try.underlying29 Try.underlying5 Try.underlying9
  go_wp2_with fail
  refine (NMul_v 1 m HKK.out _ _ 0 B P _ (HK10.out.get 0 rfl) (HK10.out.get 1 rfl) HL0.out HLB.out HEm.out).mono ?_
  rintro e w11 ⟨am, cm, rfl, hv, hf⟩
  have HK11 := Lib.hid (show Kp w11 [(.slice aa 32 ca, 0), (.slice ab 32 cb, B), (.slice ac 32 cc, C), (.slice az 32 32, 0), (.slice aone 32 32, 1), (.slice aab 32 cab, AB), (.slice aba 32 cba, AB), (.slice abc 32 cbc, BC), (.slice al1 32 cl1, S), (.slice ar1 32 cr1, S), (.slice am 32 cm, P)] from HK10.out.add hf hv)
  have HF11 := Lib.hid (HF10.out.then hf)
  clear hf hv HK10 HF10
  clear hc0 hc1 hc2 hc3
  go_wp2_with fail
  refine (NMul_v 1 m HKK.out _ _ B 0 P _ (HK11.out.get 1 rfl) (HK11.out.get 0 rfl) HLB.out HL0.out HEn.out).mono ?_
  rintro e w12 ⟨an, cn, rfl, hv, hf⟩
  have HK12 := Lib.hid (show Kp w12 [(.slice aa 32 ca, 0), (.slice ab 32 cb, B), (.slice ac 32 cc, C), (.slice az 32 32, 0), (.slice aone 32 32, 1), (.slice aab 32 cab, AB), (.slice aba 32 cba, AB), (.slice abc 32 cbc, BC), (.slice al1 32 cl1, S), (.slice ar1 32 cr1, S), (.slice am 32 cm, P), (.slice an 32 cn, P)] from HK11.out.add hf hv)
  have HF12 := Lib.hid (HF11.out.then hf)
  clear hf hv HK11 HF11
  go_wp2_with fail
  refine (NMul_v 1 m HKK.out _ _ B C Q _ (HK12.out.get 1 rfl) (HK12.out.get 2 rfl) HLB.out HLC.out HEbm.out).mono ?_
  rintro e w13 ⟨abm, cbm, rfl, hv, hf⟩
  have HK13 := Lib.hid (show Kp w13 [(.slice aa 32 ca, 0), (.slice ab 32 cb, B), (.slice ac 32 cc, C), (.slice az 32 32, 0), (.slice aone 32 32, 1), (.slice aab 32 cab, AB), (.slice aba 32 cba, AB), (.slice abc 32 cbc, BC), (.slice al1 32 cl1, S), (.slice ar1 32 cr1, S), (.slice am 32 cm, P), (.slice an 32 cn, P), (.slice abm 32 cbm, Q)] from HK12.out.add hf hv)
  have HF13 := Lib.hid (HF12.out.then hf)
  clear hf hv HK12 HF12
  go_wp2_with fail
  refine (NMul_v 1 m HKK.out _ _ P C T _ (HK13.out.get 10 rfl) (HK13.out.get 2 rfl) HLP.out HLC.out HEl2.out).mono ?_
  rintro e w14 ⟨al2, cl2, rfl, hv, hf⟩
  have HK14 := Lib.hid (show Kp w14 [(.slice aa 32 ca, 0), (.slice ab 32 cb, B), (.slice ac 32 cc, C), (.slice az 32 32, 0), (.slice aone 32 32, 1), (.slice aab 32 cab, AB), (.slice aba 32 cba, AB), (.slice abc 32 cbc, BC), (.slice al1 32 cl1, S), (.slice ar1 32 cr1, S), (.slice am 32 cm, P), (.slice an 32 cn, P), (.slice abm 32 cbm, Q), (.slice al2 32 cl2, T)] from HK13.out.add hf hv)
  have HF14 := Lib.hid (HF13.out.then hf)
  clear hf hv HK13 HF13
  go_wp2_with fail
  refine (NMul_v 1 m HKK.out _ _ 0 Q T _ (HK14.out.get 0 rfl) (HK14.out.get 12 rfl) HL0.out HLQ.out HEr2.out).mono ?_
  rintro e w15 ⟨ar2, cr2, rfl, hv, hf⟩
  have HK15 := Lib.hid (show Kp w15 [(.slice aa 32 ca, 0), (.slice ab 32 cb, B), (.slice ac 32 cc, C), (.slice az 32 32, 0), (.slice aone 32 32, 1), (.slice aab 32 cab, AB), (.slice aba 32 cba, AB), (.slice abc 32 cbc, BC), (.slice al1 32 cl1, S), (.slice ar1 32 cr1, S), (.slice am 32 cm, P), (.slice an 32 cn, P), (.slice abm 32 cbm, Q), (.slice al2 32 cl2, T), (.slice ar2 32 cr2, T)] from HK14.out.add hf hv)
  have HF15 := Lib.hid (HF14.out.then hf)
  clear hf hv HK14 HF14
  have hc0 := run_string (P := Try.prog) (HK15.out.rd 10 rfl) cm Try.underlying29 Try.underlying5 Try.underlying9
  have hc1 := run_string (P := Try.prog) (HK15.out.rd 11 rfl) cn Try.underlying29 Try.underlying5 Try.underlying9
  have hc2 := run_string (P := Try.prog) (HK15.out.rd 13 rfl) cl2 Try.underlying29 Try.underlying5 Try.underlying9
  have hc3 := run_string (P := Try.prog) (HK15.out.rd 14 rfl) cr2 Try.underlying29 Try.underlying5 Try.underlying9
  go_wp2_with fail
  refine (NMul_v 1 m HKK.out _ _ 0 C AC _ (HK15.out.get 0 rfl) (HK15.out.get 2 rfl) HL0.out HLC.out HEac.out).mono ?_
  rintro e w16 ⟨aac, cac, rfl, hv, hf⟩
  have HK16 := Lib.hid (show Kp w16 [(.slice aa 32 ca, 0), (.slice ab 32 cb, B), (.slice ac 32 cc, C), (.slice az 32 32, 0), (.slice aone 32 32, 1), (.slice aab 32 cab, AB), (.slice aba 32 cba, AB), (.slice abc 32 cbc, BC), (.slice al1 32 cl1, S), (.slice ar1 32 cr1, S), (.slice am 32 cm, P), (.slice an 32 cn, P), (.slice abm 32 cbm, Q), (.slice al2 32 cl2, T), (.slice ar2 32 cr2, T), (.slice aac 32 cac, AC)] from HK15.out.add hf hv)
  have HF16 := Lib.hid (HF15.out.then hf)
  clear hf hv HK15 HF15
  clear hc0 hc1 hc2 hc3
  go_wp2_with fail
  refine (NMul_v 1 m HKK.out _ _ 0 BC D _ (HK16.out.get 0 rfl) (HK16.out.get 7 rfl) HL0.out HLBC.out HEl3.out).mono ?_
  rintro e w17 ⟨al3, cl3, rfl, hv, hf⟩
  have HK17 := Lib.hid (show Kp w17 [(.slice aa 32 ca, 0), (.slice ab 32 cb, B), (.slice ac 32 cc, C), (.slice az 32 32, 0), (.slice aone 32 32, 1), (.slice aab 32 cab, AB), (.slice aba 32 cba, AB), (.slice abc 32 cbc, BC), (.slice al1 32 cl1, S), (.slice ar1 32 cr1, S), (.slice am 32 cm, P), (.slice an 32 cn, P), (.slice abm 32 cbm, Q), (.slice al2 32 cl2, T), (.slice ar2 32 cr2, T), (.slice aac 32 cac, AC), (.slice al3 32 cl3, D)] from HK16.out.add hf hv)
  have HF17 := Lib.hid (HF16.out.then hf)
  clear hf hv HK16 HF16
  go_wp2_with fail
  refine (NAdd_v 1 m HKK.out _ _ P AC D _ (HK17.out.get 10 rfl) (HK17.out.get 15 rfl) HLP.out HLAC.out HEr3.out).mono ?_
  rintro e w18 ⟨ar3, cr3, rfl, hv, hf⟩
  have HK18 := Lib.hid (show Kp w18 [(.slice aa 32 ca, 0), (.slice ab 32 cb, B), (.slice ac 32 cc, C), (.slice az 32 32, 0), (.slice aone 32 32, 1), (.slice aab 32 cab, AB), (.slice aba 32 cba, AB), (.slice abc 32 cbc, BC), (.slice al1 32 cl1, S), (.slice ar1 32 cr1, S), (.slice am 32 cm, P), (.slice an 32 cn, P), (.slice abm 32 cbm, Q), (.slice al2 32 cl2, T), (.slice ar2 32 cr2, T), (.slice aac 32 cac, AC), (.slice al3 32 cl3, D), (.slice ar3 32 cr3, D)] from HK17.out.add hf hv)
  have HF18 := Lib.hid (HF17.out.then hf)
  clear hf hv HK17 HF17
  have hc0 := run_string (P := Try.prog) (HK18.out.rd 16 rfl) cl3 Try.underlying29 Try.underlying5 Try.underlying9
  have hc1 := run_string (P := Try.prog) (HK18.out.rd 17 rfl) cr3 Try.underlying29 Try.underlying5 Try.underlying9
  go_wp2_with fail
  refine (NSub_v 1 m HKK.out _ _ AB B 0 _ (HK18.out.get 5 rfl) (HK18.out.get 1 rfl) HLAB.out HLB.out HEd.out).mono ?_
  rintro e w19 ⟨ad, cd, rfl, hv, hf⟩
  have HK19 := Lib.hid (show Kp w19 [(.slice aa 32 ca, 0), (.slice ab 32 cb, B), (.slice ac 32 cc, C), (.slice az 32 32, 0), (.slice aone 32 32, 1), (.slice aab 32 cab, AB), (.slice aba 32 cba, AB), (.slice abc 32 cbc, BC), (.slice al1 32 cl1, S), (.slice ar1 32 cr1, S), (.slice am 32 cm, P), (.slice an 32 cn, P), (.slice abm 32 cbm, Q), (.slice al2 32 cl2, T), (.slice ar2 32 cr2, T), (.slice aac 32 cac, AC), (.slice al3 32 cl3, D), (.slice ar3 32 cr3, D), (.slice ad 32 cd, 0)] from HK18.out.add hf hv)
  have HF19 := Lib.hid (HF18.out.then hf)
  clear hf hv HK18 HF18
  clear hc0 hc1
  go_wp2_with fail
  refine (NSub_v 1 m HKK.out _ _ 0 0 0 _ (HK19.out.get 0 rfl) (HK19.out.get 0 rfl) HL0.out HL0.out HEzz.out).mono ?_
  rintro e w20 ⟨azz, czz, rfl, hv, hf⟩
  have HK20 := Lib.hid (show Kp w20 [(.slice aa 32 ca, 0), (.slice ab 32 cb, B), (.slice ac 32 cc, C), (.slice az 32 32, 0), (.slice aone 32 32, 1), (.slice aab 32 cab, AB), (.slice aba 32 cba, AB), (.slice abc 32 cbc, BC), (.slice al1 32 cl1, S), (.slice ar1 32 cr1, S), (.slice am 32 cm, P), (.slice an 32 cn, P), (.slice abm 32 cbm, Q), (.slice al2 32 cl2, T), (.slice ar2 32 cr2, T), (.slice aac 32 cac, AC), (.slice al3 32 cl3, D), (.slice ar3 32 cr3, D), (.slice ad 32 cd, 0), (.slice azz 32 czz, 0)] from HK19.out.add hf hv)
  have HF20 := Lib.hid (HF19.out.then hf)
  clear hf hv HK19 HF19
  go_wp2_with fail
  refine (NMul_v 1 m HKK.out _ _ 0 1 0 _ (HK20.out.get 0 rfl) (HK20.out.get 4 rfl) HL0.out HL1.out HEx.out).mono ?_
  rintro e w21 ⟨ax, cx, rfl, hv, hf⟩
  have HK21 := Lib.hid (show Kp w21 [(.slice aa 32 ca, 0), (.slice ab 32 cb, B), (.slice ac 32 cc, C), (.slice az 32 32, 0), (.slice aone 32 32, 1), (.slice aab 32 cab, AB), (.slice aba 32 cba, AB), (.slice abc 32 cbc, BC), (.slice al1 32 cl1, S), (.slice ar1 32 cr1, S), (.slice am 32 cm, P), (.slice an 32 cn, P), (.slice abm 32 cbm, Q), (.slice al2 32 cl2, T), (.slice ar2 32 cr2, T), (.slice aac 32 cac, AC), (.slice al3 32 cl3, D), (.slice ar3 32 cr3, D), (.slice ad 32 cd, 0), (.slice azz 32 czz, 0), (.slice ax 32 cx, 0)] from HK20.out.add hf hv)
  have HF21 := Lib.hid (HF20.out.then hf)
  clear hf hv HK20 HF20
  have hc0 := run_string (P := Try.prog) (HK21.out.rd 18 rfl) cd Try.underlying29 Try.underlying5 Try.underlying9
  have hc1 := run_string (P := Try.prog) (HK21.out.rd 0 rfl) ca Try.underlying29 Try.underlying5 Try.underlying9
  have hc2 := run_string (P := Try.prog) (HK21.out.rd 19 rfl) czz Try.underlying29 Try.underlying5 Try.underlying9
  have hc3 := run_string (P := Try.prog) (HK21.out.rd 3 rfl) 32 Try.underlying29 Try.underlying5 Try.underlying9
  have hc4 := run_string (P := Try.prog) (HK21.out.rd 20 rfl) cx Try.underlying29 Try.underlying5 Try.underlying9
  go_wp2_with fail
  refine (NInv_v 1 m HKK.out _ 0 0 _ (HK21.out.get 0 rfl) HL0.out HEi.out).mono ?_
  rintro e w22 ⟨ai, ci, rfl, hv, hf⟩
  have HK22 := Lib.hid (show Kp w22 [(.slice aa 32 ca, 0), (.slice ab 32 cb, B), (.slice ac 32 cc, C), (.slice az 32 32, 0), (.slice aone 32 32, 1), (.slice aab 32 cab, AB), (.slice aba 32 cba, AB), (.slice abc 32 cbc, BC), (.slice al1 32 cl1, S), (.slice ar1 32 cr1, S), (.slice am 32 cm, P), (.slice an 32 cn, P), (.slice abm 32 cbm, Q), (.slice al2 32 cl2, T), (.slice ar2 32 cr2, T), (.slice aac 32 cac, AC), (.slice al3 32 cl3, D), (.slice ar3 32 cr3, D), (.slice ad 32 cd, 0), (.slice azz 32 czz, 0), (.slice ax 32 cx, 0), (.slice ai 32 ci, 0)] from HK21.out.add hf hv)
  have HF22 := Lib.hid (HF21.out.then hf)
  clear hf hv HK21 HF21
  clear hc0 hc1 hc2 hc3 hc4
  go_wp2_with fail
  refine (NMul_v 1 m HKK.out _ _ 0 0 PI _ (HK22.out.get 0 rfl) (HK22.out.get 21 rfl) HL0.out HL0.out HEpi.out).mono ?_
  rintro e w23 ⟨api, cpi, rfl, hv, hf⟩
  have HK23 := Lib.hid (show Kp w23 [(.slice aa 32 ca, 0), (.slice ab 32 cb, B), (.slice ac 32 cc, C), (.slice az 32 32, 0), (.slice aone 32 32, 1), (.slice aab 32 cab, AB), (.slice aba 32 cba, AB), (.slice abc 32 cbc, BC), (.slice al1 32 cl1, S), (.slice ar1 32 cr1, S), (.slice am 32 cm, P), (.slice an 32 cn, P), (.slice abm 32 cbm, Q), (.slice al2 32 cl2, T), (.slice ar2 32 cr2, T), (.slice aac 32 cac, AC), (.slice al3 32 cl3, D), (.slice ar3 32 cr3, D), (.slice ad 32 cd, 0), (.slice azz 32 czz, 0), (.slice ax 32 cx, 0), (.slice ai 32 ci, 0), (.slice api 32 cpi, PI)] from HK22.out.add hf hv)
  have HF23 := Lib.hid (HF22.out.then hf)
  clear hf hv HK22 HF22
  have hc0 := run_string (P := Try.prog) (HK23.out.rd 0 rfl) ca Try.underlying29 Try.underlying5 Try.underlying9
  have hc1 := run_string (P := Try.prog) (HK23.out.rd 3 rfl) 32 Try.underlying29 Try.underlying5 Try.underlying9
  have hc2 := run_string (P := Try.prog) (HK23.out.rd 22 rfl) cpi Try.underlying29 Try.underlying5 Try.underlying9
  have hc3 := run_string (P := Try.prog) (HK23.out.rd 4 rfl) 32 Try.underlying29 Try.underlying5 Try.underlying9
  have hc4 := run_string (P := Try.prog) (HK23.out.rd 21 rfl) ci Try.underlying29 Try.underlying5 Try.underlying9
  have HFE := Lib.hid HF23.out
  go_wp2_with fail
  go_ret
  exact ⟨rfl, HFE.out⟩
end Go.Proofs.Ytmegaegedlbckaa

/- The law NumLaws, walked: NumLaws_k1_n_n and its like. -/
namespace Go.Proofs.Ytmegaegedlbckaa
open Go.RowKit Go.Mv Mvp Mvq
attribute [local irreducible] limbs lw mix cw cSub cAdd cMul foldC valFrom beN laid be32 powm montT mstep elN mdL elCells numsB numB rtV rtOk rtN Kp
set_option maxHeartbeats 32000000 in
set_option maxRecDepth 1000000 in
theorem NumLaws_k1_n_n (kd : Int) (m : Md) (hk : KindOf 1 m) (s t u : ByteArray) (w0 : World) (hs : s.size ≤ 1024) (ht : t.size ≤ 1024) (hu : u.size ≤ 1024) (A B C AB BC S P Q T AC D I PI : Nat) (eab : (A + B) % m.M = AB) (eba : (B + A) % m.M = AB) (ebc : (B + C) % m.M = BC) (el1 : (AB + C) % m.M = S) (er1 : (A + BC) % m.M = S) (em : A * B % m.M = P) (en : B * A % m.M = P) (ebm : B * C % m.M = Q) (el2 : P * C % m.M = T) (er2 : A * Q % m.M = T) (eac : A * C % m.M = AC) (el3 : A * BC % m.M = D) (er3 : (P + AC) % m.M = D) (ed : (AB + (m.M - B)) % m.M = A) (ezz : (A + (m.M - A)) % m.M = 0) (ex : A * 1 % m.M = A) (ei : A ^ (m.M - 2) % m.M = I) (epi : A * I % m.M = PI) (lA : A < m.M) (lB : B < m.M) (lC : C < m.M) (lAB : AB < m.M) (lBC : BC < m.M) (lP : P < m.M) (lQ : Q < m.M) (lAC : AC < m.M) (lI : I < m.M) (l1 : 1 < m.M) (l0 : 0 < m.M) (rA : beN s.data.toList % m.M = A) (rB : beN t.data.toList % m.M = B) (rC : beN u.data.toList % m.M = C) (hA : A ≠ 0) (hPI : PI = 1) (hkd : kd < 0) (hlo : -9223372036854775808 ≤ kd ∧ kd ≤ 9223372036854775807) (hrem : -((kd + 1).tmod 2) = 1) :
    Calls Try.prog 8 #[.int .i64 kd, .string s, .string t, .string u] w0 fun e w' => e = .returned (.bool true) ∧ Fr Nob w0 w' := by
  have hgs : ¬ ((1024 : Int) < (s.size : Int)) := by omega
  have hgt : ¬ ((1024 : Int) < (t.size : Int)) := by omega
  have hgu : ¬ ((1024 : Int) < (u.size : Int)) := by omega
  have HREM := Lib.hid hrem
  clear hrem
  have HKK := Lib.hid hk
  have HEab := Lib.hid eab
  have HEba := Lib.hid eba
  have HEbc := Lib.hid ebc
  have HEl1 := Lib.hid el1
  have HEr1 := Lib.hid er1
  have HEm := Lib.hid em
  have HEn := Lib.hid en
  have HEbm := Lib.hid ebm
  have HEl2 := Lib.hid el2
  have HEr2 := Lib.hid er2
  have HEac := Lib.hid eac
  have HEl3 := Lib.hid el3
  have HEr3 := Lib.hid er3
  have HEd := Lib.hid ed
  have HEzz := Lib.hid ezz
  have HEx := Lib.hid ex
  have HEi := Lib.hid ei
  have HEpi := Lib.hid epi
  have HLA := Lib.hid lA
  have HLB := Lib.hid lB
  have HLC := Lib.hid lC
  have HLAB := Lib.hid lAB
  have HLBC := Lib.hid lBC
  have HLP := Lib.hid lP
  have HLQ := Lib.hid lQ
  have HLAC := Lib.hid lAC
  have HLI := Lib.hid lI
  have HL1 := Lib.hid l1
  have HL0 := Lib.hid l0
  have HRA := Lib.hid rA
  have HRB := Lib.hid rB
  have HRC := Lib.hid rC
  have HSs := Lib.hid hs
  have HSt := Lib.hid ht
  have HSu := Lib.hid hu
  have HNE := Lib.hid (str_ne (Nat.lt_trans lA hk.ok.lt) (show 0 < B64 ^ 4 by decide) hA)
  clear hk eab eba ebc el1 er1 em en ebm el2 er2 eac el3 er3 ed ezz ex ei epi lA lB lC lAB lBC lP lQ lAC lI l1 l0 rA rB rC hs ht hu hA
  subst hPI
  obtain ⟨hlo1, hlo2⟩ := hlo
  go_enter Try.func8, Try.ntmps8
  have HK0 := Lib.hid (Kp.nil w0)
  have HF0 := Lib.hid (Fr.refl Nob w0)
  go_wp2_with (with_reducible refine wl_stop (o := ⟨some 74, _, _, _, _, _⟩) ?_)
  rw [HREM.out]
  refine wl_bytes (q := s) rfl rfl Try.underlying9 Try.underlying29 Try.underlying5 rfl (by have := HSs.out; unfold maxLen; omega) w0.heap.size (Nat.le_refl _) ?_
  intro cap wb hown hfb hzb
  clear hzb
  have HPB := Lib.hid (BPart.ofOwn hown)
  generalize w0.heap.size = gb at *
  have HKb := Lib.hid (HK0.out.still hfb)
  have HFb := Lib.hid (HF0.out.then hfb)
  clear hown hfb HK0 HF0
  rename Hid (Kp wb _) => HK0
  rename Hid (Fr Nob w0 wb) => HF0
  go_wp2_with fail
  refine (NReduce_v 1 m HKK.out _ s.data.toList A _ HPB.out (by have := HSs.out; simpa using this) HRA.out).mono ?_
  rintro e w1 ⟨aa, ca, rfl, hv, hf⟩
  have HK1 := Lib.hid (show Kp w1 [(.slice aa 32 ca, A)] from HK0.out.add hf hv)
  have HF1 := Lib.hid (HF0.out.then hf)
  clear hf hv HK0 HF0
  clear HPB
  go_wp2_with (with_reducible refine wl_stop (o := ⟨some 81, _, _, _, _, _⟩) ?_)
  refine wl_bytes (q := t) rfl rfl Try.underlying9 Try.underlying29 Try.underlying5 rfl (by have := HSt.out; unfold maxLen; omega) w1.heap.size (Nat.le_refl _) ?_
  intro cap wb hown hfb hzb
  clear hzb
  have HPB := Lib.hid (BPart.ofOwn hown)
  generalize w1.heap.size = gb at *
  have HKb := Lib.hid (HK1.out.still hfb)
  have HFb := Lib.hid (HF1.out.then hfb)
  clear hown hfb HK1 HF1
  rename Hid (Kp wb _) => HK1
  rename Hid (Fr Nob w0 wb) => HF1
  go_wp2_with fail
  refine (NReduce_v 1 m HKK.out _ t.data.toList B _ HPB.out (by have := HSt.out; simpa using this) HRB.out).mono ?_
  rintro e w2 ⟨ab, cb, rfl, hv, hf⟩
  have HK2 := Lib.hid (show Kp w2 [(.slice aa 32 ca, A), (.slice ab 32 cb, B)] from HK1.out.add hf hv)
  have HF2 := Lib.hid (HF1.out.then hf)
  clear hf hv HK1 HF1
  clear HPB
  go_wp2_with (with_reducible refine wl_stop (o := ⟨some 88, _, _, _, _, _⟩) ?_)
  refine wl_bytes (q := u) rfl rfl Try.underlying9 Try.underlying29 Try.underlying5 rfl (by have := HSu.out; unfold maxLen; omega) w2.heap.size (Nat.le_refl _) ?_
  intro cap wb hown hfb hzb
  clear hzb
  have HPB := Lib.hid (BPart.ofOwn hown)
  generalize w2.heap.size = gb at *
  have HKb := Lib.hid (HK2.out.still hfb)
  have HFb := Lib.hid (HF2.out.then hfb)
  clear hown hfb HK2 HF2
  rename Hid (Kp wb _) => HK2
  rename Hid (Fr Nob w0 wb) => HF2
  go_wp2_with fail
  refine (NReduce_v 1 m HKK.out _ u.data.toList C _ HPB.out (by have := HSu.out; simpa using this) HRC.out).mono ?_
  rintro e w3 ⟨ac, cc, rfl, hv, hf⟩
  have HK3 := Lib.hid (show Kp w3 [(.slice aa 32 ca, A), (.slice ab 32 cb, B), (.slice ac 32 cc, C)] from HK2.out.add hf hv)
  have HF3 := Lib.hid (HF2.out.then hf)
  clear hf hv HK2 HF2
  clear HPB
  go_wp2_with (with_reducible refine wl_stop (o := ⟨some 107, _, _, _, _, _⟩) ?_)
  refine wl_make rfl rfl Try.underlying29 info_u8 rfl rfl rfl 32 32 (by simp) (by simp) (by omega) (by omega) (by unfold maxLen; omega) ?_
  intro w4 hgz hf hzz
  clear hzz
  have hv : BPart w4 (.slice (some ⟨w3.heap.size, 0, none⟩) 32 32) (be32 0) := ⟨_, 32, 32, rfl, by omega, by rw [be32_zero]; exact Rd.whole hgz⟩
  have HGZ := Lib.hid hgz
  clear hgz
  generalize haz : (some (⟨w3.heap.size, 0, none⟩ : Addr)) = az at *
  clear haz HGZ
  have HK4 := Lib.hid (show Kp w4 [(.slice aa 32 ca, A), (.slice ab 32 cb, B), (.slice ac 32 cc, C), (.slice az 32 32, 0)] from HK3.out.add hf hv)
  have HF4 := Lib.hid (HF3.out.then hf)
  clear hf hv HK3 HF3
  go_wp2_with (with_reducible refine wl_stop (o := ⟨some 108, _, _, _, _, _⟩) ?_)
  refine wl_make rfl rfl Try.underlying29 info_u8 rfl rfl rfl 32 32 (by simp) (by simp) (by omega) (by omega) (by unfold maxLen; omega) ?_
  intro wm hgo hfm hzo
  clear hzo
  generalize hgw : w4.heap.size = go at *
  have HGW := Lib.hid hgw
  clear hgw
  obtain ⟨z31, hz1, hz2⟩ := hgo.ready (i := 31) (by simp)
  have HGO := Lib.hid hgo
  have HFM := Lib.hid hfm
  clear hgo hfm
  go_wp2_with fail
  obtain ⟨w5, hwn⟩ : ∃ x, x = wm.setCell ⟨go, 31, none⟩ (.int .u8 1) := ⟨_, rfl⟩
  have hgs := HGO.out.set 31 (.int .u8 1)
  have hfs : Fr Nob w4 (wm.setCell ⟨go, 31, none⟩ (.int .u8 1)) := HFM.out.trans ((Fr.refl (One go) wm).setCell go 31 none _ (fun _ => rfl)) (fun j hj hjg => by have e : j = go := hjg; have := HGW.out; omega)
  rw [← hwn] at hgs hfs ⊢
  clear hwn hz1 hz2
  have hf := hfs
  clear hfs
  have hv : BPart w5 (.slice (some ⟨go, 0, none⟩) 32 32) (be32 1) := ⟨_, 32, 32, rfl, by omega, by rw [be32_one]; exact Rd.whole hgs⟩
  clear hgs HGO HFM HGW
  generalize (some (⟨go, 0, none⟩ : Addr)) = aone at *
  have HK5 := Lib.hid (show Kp w5 [(.slice aa 32 ca, A), (.slice ab 32 cb, B), (.slice ac 32 cc, C), (.slice az 32 32, 0), (.slice aone 32 32, 1)] from HK4.out.add hf hv)
  have HF5 := Lib.hid (HF4.out.then hf)
  clear hf hv HK4 HF4
  refine (NAdd_v 1 m HKK.out _ _ A B AB _ (HK5.out.get 0 rfl) (HK5.out.get 1 rfl) HLA.out HLB.out HEab.out).mono ?_
  rintro e w6 ⟨aab, cab, rfl, hv, hf⟩
  have HK6 := Lib.hid (show Kp w6 [(.slice aa 32 ca, A), (.slice ab 32 cb, B), (.slice ac 32 cc, C), (.slice az 32 32, 0), (.slice aone 32 32, 1), (.slice aab 32 cab, AB)] from HK5.out.add hf hv)
  have HF6 := Lib.hid (HF5.out.then hf)
  clear hf hv HK5 HF5
  go_wp2_with fail
  refine (NAdd_v 1 m HKK.out _ _ B A AB _ (HK6.out.get 1 rfl) (HK6.out.get 0 rfl) HLB.out HLA.out HEba.out).mono ?_
  rintro e w7 ⟨aba, cba, rfl, hv, hf⟩
  have HK7 := Lib.hid (show Kp w7 [(.slice aa 32 ca, A), (.slice ab 32 cb, B), (.slice ac 32 cc, C), (.slice az 32 32, 0), (.slice aone 32 32, 1), (.slice aab 32 cab, AB), (.slice aba 32 cba, AB)] from HK6.out.add hf hv)
  have HF7 := Lib.hid (HF6.out.then hf)
  clear hf hv HK6 HF6
  go_wp2_with fail
  refine (NAdd_v 1 m HKK.out _ _ B C BC _ (HK7.out.get 1 rfl) (HK7.out.get 2 rfl) HLB.out HLC.out HEbc.out).mono ?_
  rintro e w8 ⟨abc, cbc, rfl, hv, hf⟩
  have HK8 := Lib.hid (show Kp w8 [(.slice aa 32 ca, A), (.slice ab 32 cb, B), (.slice ac 32 cc, C), (.slice az 32 32, 0), (.slice aone 32 32, 1), (.slice aab 32 cab, AB), (.slice aba 32 cba, AB), (.slice abc 32 cbc, BC)] from HK7.out.add hf hv)
  have HF8 := Lib.hid (HF7.out.then hf)
  clear hf hv HK7 HF7
  go_wp2_with fail
  refine (NAdd_v 1 m HKK.out _ _ AB C S _ (HK8.out.get 5 rfl) (HK8.out.get 2 rfl) HLAB.out HLC.out HEl1.out).mono ?_
  rintro e w9 ⟨al1, cl1, rfl, hv, hf⟩
  have HK9 := Lib.hid (show Kp w9 [(.slice aa 32 ca, A), (.slice ab 32 cb, B), (.slice ac 32 cc, C), (.slice az 32 32, 0), (.slice aone 32 32, 1), (.slice aab 32 cab, AB), (.slice aba 32 cba, AB), (.slice abc 32 cbc, BC), (.slice al1 32 cl1, S)] from HK8.out.add hf hv)
  have HF9 := Lib.hid (HF8.out.then hf)
  clear hf hv HK8 HF8
  go_wp2_with fail
  refine (NAdd_v 1 m HKK.out _ _ A BC S _ (HK9.out.get 0 rfl) (HK9.out.get 7 rfl) HLA.out HLBC.out HEr1.out).mono ?_
  rintro e w10 ⟨ar1, cr1, rfl, hv, hf⟩
  have HK10 := Lib.hid (show Kp w10 [(.slice aa 32 ca, A), (.slice ab 32 cb, B), (.slice ac 32 cc, C), (.slice az 32 32, 0), (.slice aone 32 32, 1), (.slice aab 32 cab, AB), (.slice aba 32 cba, AB), (.slice abc 32 cbc, BC), (.slice al1 32 cl1, S), (.slice ar1 32 cr1, S)] from HK9.out.add hf hv)
  have HF10 := Lib.hid (HF9.out.then hf)
  clear hf hv HK9 HF9
  have hc0 := run_string (P := Try.prog) (HK10.out.rd 5 rfl) cab Try.underlying29 Try.underlying5 Try.underlying9
  have hc1 := run_string (P := Try.prog) (HK10.out.rd 6 rfl) cba Try.underlying29 Try.underlying5 Try.underlying9
  have hc2 := run_string (P := Try.prog) (HK10.out.rd 8 rfl) cl1 Try.underlying29 Try.underlying5 Try.underlying9
  have hc3 := run_string (P := Try.prog) (HK10.out.rd 9 rfl) cr1 Try.underlying29 Try.underlying5 Try.underlying9
  go_wp2_with fail
  refine (NMul_v 1 m HKK.out _ _ A B P _ (HK10.out.get 0 rfl) (HK10.out.get 1 rfl) HLA.out HLB.out HEm.out).mono ?_
  rintro e w11 ⟨am, cm, rfl, hv, hf⟩
  have HK11 := Lib.hid (show Kp w11 [(.slice aa 32 ca, A), (.slice ab 32 cb, B), (.slice ac 32 cc, C), (.slice az 32 32, 0), (.slice aone 32 32, 1), (.slice aab 32 cab, AB), (.slice aba 32 cba, AB), (.slice abc 32 cbc, BC), (.slice al1 32 cl1, S), (.slice ar1 32 cr1, S), (.slice am 32 cm, P)] from HK10.out.add hf hv)
  have HF11 := Lib.hid (HF10.out.then hf)
  clear hf hv HK10 HF10
  clear hc0 hc1 hc2 hc3
  go_wp2_with fail
  refine (NMul_v 1 m HKK.out _ _ B A P _ (HK11.out.get 1 rfl) (HK11.out.get 0 rfl) HLB.out HLA.out HEn.out).mono ?_
  rintro e w12 ⟨an, cn, rfl, hv, hf⟩
  have HK12 := Lib.hid (show Kp w12 [(.slice aa 32 ca, A), (.slice ab 32 cb, B), (.slice ac 32 cc, C), (.slice az 32 32, 0), (.slice aone 32 32, 1), (.slice aab 32 cab, AB), (.slice aba 32 cba, AB), (.slice abc 32 cbc, BC), (.slice al1 32 cl1, S), (.slice ar1 32 cr1, S), (.slice am 32 cm, P), (.slice an 32 cn, P)] from HK11.out.add hf hv)
  have HF12 := Lib.hid (HF11.out.then hf)
  clear hf hv HK11 HF11
  go_wp2_with fail
  refine (NMul_v 1 m HKK.out _ _ B C Q _ (HK12.out.get 1 rfl) (HK12.out.get 2 rfl) HLB.out HLC.out HEbm.out).mono ?_
  rintro e w13 ⟨abm, cbm, rfl, hv, hf⟩
  have HK13 := Lib.hid (show Kp w13 [(.slice aa 32 ca, A), (.slice ab 32 cb, B), (.slice ac 32 cc, C), (.slice az 32 32, 0), (.slice aone 32 32, 1), (.slice aab 32 cab, AB), (.slice aba 32 cba, AB), (.slice abc 32 cbc, BC), (.slice al1 32 cl1, S), (.slice ar1 32 cr1, S), (.slice am 32 cm, P), (.slice an 32 cn, P), (.slice abm 32 cbm, Q)] from HK12.out.add hf hv)
  have HF13 := Lib.hid (HF12.out.then hf)
  clear hf hv HK12 HF12
  go_wp2_with fail
  refine (NMul_v 1 m HKK.out _ _ P C T _ (HK13.out.get 10 rfl) (HK13.out.get 2 rfl) HLP.out HLC.out HEl2.out).mono ?_
  rintro e w14 ⟨al2, cl2, rfl, hv, hf⟩
  have HK14 := Lib.hid (show Kp w14 [(.slice aa 32 ca, A), (.slice ab 32 cb, B), (.slice ac 32 cc, C), (.slice az 32 32, 0), (.slice aone 32 32, 1), (.slice aab 32 cab, AB), (.slice aba 32 cba, AB), (.slice abc 32 cbc, BC), (.slice al1 32 cl1, S), (.slice ar1 32 cr1, S), (.slice am 32 cm, P), (.slice an 32 cn, P), (.slice abm 32 cbm, Q), (.slice al2 32 cl2, T)] from HK13.out.add hf hv)
  have HF14 := Lib.hid (HF13.out.then hf)
  clear hf hv HK13 HF13
  go_wp2_with fail
  refine (NMul_v 1 m HKK.out _ _ A Q T _ (HK14.out.get 0 rfl) (HK14.out.get 12 rfl) HLA.out HLQ.out HEr2.out).mono ?_
  rintro e w15 ⟨ar2, cr2, rfl, hv, hf⟩
  have HK15 := Lib.hid (show Kp w15 [(.slice aa 32 ca, A), (.slice ab 32 cb, B), (.slice ac 32 cc, C), (.slice az 32 32, 0), (.slice aone 32 32, 1), (.slice aab 32 cab, AB), (.slice aba 32 cba, AB), (.slice abc 32 cbc, BC), (.slice al1 32 cl1, S), (.slice ar1 32 cr1, S), (.slice am 32 cm, P), (.slice an 32 cn, P), (.slice abm 32 cbm, Q), (.slice al2 32 cl2, T), (.slice ar2 32 cr2, T)] from HK14.out.add hf hv)
  have HF15 := Lib.hid (HF14.out.then hf)
  clear hf hv HK14 HF14
  have hc0 := run_string (P := Try.prog) (HK15.out.rd 10 rfl) cm Try.underlying29 Try.underlying5 Try.underlying9
  have hc1 := run_string (P := Try.prog) (HK15.out.rd 11 rfl) cn Try.underlying29 Try.underlying5 Try.underlying9
  have hc2 := run_string (P := Try.prog) (HK15.out.rd 13 rfl) cl2 Try.underlying29 Try.underlying5 Try.underlying9
  have hc3 := run_string (P := Try.prog) (HK15.out.rd 14 rfl) cr2 Try.underlying29 Try.underlying5 Try.underlying9
  go_wp2_with fail
  refine (NMul_v 1 m HKK.out _ _ A C AC _ (HK15.out.get 0 rfl) (HK15.out.get 2 rfl) HLA.out HLC.out HEac.out).mono ?_
  rintro e w16 ⟨aac, cac, rfl, hv, hf⟩
  have HK16 := Lib.hid (show Kp w16 [(.slice aa 32 ca, A), (.slice ab 32 cb, B), (.slice ac 32 cc, C), (.slice az 32 32, 0), (.slice aone 32 32, 1), (.slice aab 32 cab, AB), (.slice aba 32 cba, AB), (.slice abc 32 cbc, BC), (.slice al1 32 cl1, S), (.slice ar1 32 cr1, S), (.slice am 32 cm, P), (.slice an 32 cn, P), (.slice abm 32 cbm, Q), (.slice al2 32 cl2, T), (.slice ar2 32 cr2, T), (.slice aac 32 cac, AC)] from HK15.out.add hf hv)
  have HF16 := Lib.hid (HF15.out.then hf)
  clear hf hv HK15 HF15
  clear hc0 hc1 hc2 hc3
  go_wp2_with fail
  refine (NMul_v 1 m HKK.out _ _ A BC D _ (HK16.out.get 0 rfl) (HK16.out.get 7 rfl) HLA.out HLBC.out HEl3.out).mono ?_
  rintro e w17 ⟨al3, cl3, rfl, hv, hf⟩
  have HK17 := Lib.hid (show Kp w17 [(.slice aa 32 ca, A), (.slice ab 32 cb, B), (.slice ac 32 cc, C), (.slice az 32 32, 0), (.slice aone 32 32, 1), (.slice aab 32 cab, AB), (.slice aba 32 cba, AB), (.slice abc 32 cbc, BC), (.slice al1 32 cl1, S), (.slice ar1 32 cr1, S), (.slice am 32 cm, P), (.slice an 32 cn, P), (.slice abm 32 cbm, Q), (.slice al2 32 cl2, T), (.slice ar2 32 cr2, T), (.slice aac 32 cac, AC), (.slice al3 32 cl3, D)] from HK16.out.add hf hv)
  have HF17 := Lib.hid (HF16.out.then hf)
  clear hf hv HK16 HF16
  go_wp2_with fail
  refine (NAdd_v 1 m HKK.out _ _ P AC D _ (HK17.out.get 10 rfl) (HK17.out.get 15 rfl) HLP.out HLAC.out HEr3.out).mono ?_
  rintro e w18 ⟨ar3, cr3, rfl, hv, hf⟩
  have HK18 := Lib.hid (show Kp w18 [(.slice aa 32 ca, A), (.slice ab 32 cb, B), (.slice ac 32 cc, C), (.slice az 32 32, 0), (.slice aone 32 32, 1), (.slice aab 32 cab, AB), (.slice aba 32 cba, AB), (.slice abc 32 cbc, BC), (.slice al1 32 cl1, S), (.slice ar1 32 cr1, S), (.slice am 32 cm, P), (.slice an 32 cn, P), (.slice abm 32 cbm, Q), (.slice al2 32 cl2, T), (.slice ar2 32 cr2, T), (.slice aac 32 cac, AC), (.slice al3 32 cl3, D), (.slice ar3 32 cr3, D)] from HK17.out.add hf hv)
  have HF18 := Lib.hid (HF17.out.then hf)
  clear hf hv HK17 HF17
  have hc0 := run_string (P := Try.prog) (HK18.out.rd 16 rfl) cl3 Try.underlying29 Try.underlying5 Try.underlying9
  have hc1 := run_string (P := Try.prog) (HK18.out.rd 17 rfl) cr3 Try.underlying29 Try.underlying5 Try.underlying9
  go_wp2_with fail
  refine (NSub_v 1 m HKK.out _ _ AB B A _ (HK18.out.get 5 rfl) (HK18.out.get 1 rfl) HLAB.out HLB.out HEd.out).mono ?_
  rintro e w19 ⟨ad, cd, rfl, hv, hf⟩
  have HK19 := Lib.hid (show Kp w19 [(.slice aa 32 ca, A), (.slice ab 32 cb, B), (.slice ac 32 cc, C), (.slice az 32 32, 0), (.slice aone 32 32, 1), (.slice aab 32 cab, AB), (.slice aba 32 cba, AB), (.slice abc 32 cbc, BC), (.slice al1 32 cl1, S), (.slice ar1 32 cr1, S), (.slice am 32 cm, P), (.slice an 32 cn, P), (.slice abm 32 cbm, Q), (.slice al2 32 cl2, T), (.slice ar2 32 cr2, T), (.slice aac 32 cac, AC), (.slice al3 32 cl3, D), (.slice ar3 32 cr3, D), (.slice ad 32 cd, A)] from HK18.out.add hf hv)
  have HF19 := Lib.hid (HF18.out.then hf)
  clear hf hv HK18 HF18
  clear hc0 hc1
  go_wp2_with fail
  refine (NSub_v 1 m HKK.out _ _ A A 0 _ (HK19.out.get 0 rfl) (HK19.out.get 0 rfl) HLA.out HLA.out HEzz.out).mono ?_
  rintro e w20 ⟨azz, czz, rfl, hv, hf⟩
  have HK20 := Lib.hid (show Kp w20 [(.slice aa 32 ca, A), (.slice ab 32 cb, B), (.slice ac 32 cc, C), (.slice az 32 32, 0), (.slice aone 32 32, 1), (.slice aab 32 cab, AB), (.slice aba 32 cba, AB), (.slice abc 32 cbc, BC), (.slice al1 32 cl1, S), (.slice ar1 32 cr1, S), (.slice am 32 cm, P), (.slice an 32 cn, P), (.slice abm 32 cbm, Q), (.slice al2 32 cl2, T), (.slice ar2 32 cr2, T), (.slice aac 32 cac, AC), (.slice al3 32 cl3, D), (.slice ar3 32 cr3, D), (.slice ad 32 cd, A), (.slice azz 32 czz, 0)] from HK19.out.add hf hv)
  have HF20 := Lib.hid (HF19.out.then hf)
  clear hf hv HK19 HF19
  go_wp2_with fail
  refine (NMul_v 1 m HKK.out _ _ A 1 A _ (HK20.out.get 0 rfl) (HK20.out.get 4 rfl) HLA.out HL1.out HEx.out).mono ?_
  rintro e w21 ⟨ax, cx, rfl, hv, hf⟩
  have HK21 := Lib.hid (show Kp w21 [(.slice aa 32 ca, A), (.slice ab 32 cb, B), (.slice ac 32 cc, C), (.slice az 32 32, 0), (.slice aone 32 32, 1), (.slice aab 32 cab, AB), (.slice aba 32 cba, AB), (.slice abc 32 cbc, BC), (.slice al1 32 cl1, S), (.slice ar1 32 cr1, S), (.slice am 32 cm, P), (.slice an 32 cn, P), (.slice abm 32 cbm, Q), (.slice al2 32 cl2, T), (.slice ar2 32 cr2, T), (.slice aac 32 cac, AC), (.slice al3 32 cl3, D), (.slice ar3 32 cr3, D), (.slice ad 32 cd, A), (.slice azz 32 czz, 0), (.slice ax 32 cx, A)] from HK20.out.add hf hv)
  have HF21 := Lib.hid (HF20.out.then hf)
  clear hf hv HK20 HF20
  have hc0 := run_string (P := Try.prog) (HK21.out.rd 18 rfl) cd Try.underlying29 Try.underlying5 Try.underlying9
  have hc1 := run_string (P := Try.prog) (HK21.out.rd 0 rfl) ca Try.underlying29 Try.underlying5 Try.underlying9
  have hc2 := run_string (P := Try.prog) (HK21.out.rd 19 rfl) czz Try.underlying29 Try.underlying5 Try.underlying9
  have hc3 := run_string (P := Try.prog) (HK21.out.rd 3 rfl) 32 Try.underlying29 Try.underlying5 Try.underlying9
  have hc4 := run_string (P := Try.prog) (HK21.out.rd 20 rfl) cx Try.underlying29 Try.underlying5 Try.underlying9
  go_wp2_with fail
  refine (NInv_v 1 m HKK.out _ A I _ (HK21.out.get 0 rfl) HLA.out HEi.out).mono ?_
  rintro e w22 ⟨ai, ci, rfl, hv, hf⟩
  have HK22 := Lib.hid (show Kp w22 [(.slice aa 32 ca, A), (.slice ab 32 cb, B), (.slice ac 32 cc, C), (.slice az 32 32, 0), (.slice aone 32 32, 1), (.slice aab 32 cab, AB), (.slice aba 32 cba, AB), (.slice abc 32 cbc, BC), (.slice al1 32 cl1, S), (.slice ar1 32 cr1, S), (.slice am 32 cm, P), (.slice an 32 cn, P), (.slice abm 32 cbm, Q), (.slice al2 32 cl2, T), (.slice ar2 32 cr2, T), (.slice aac 32 cac, AC), (.slice al3 32 cl3, D), (.slice ar3 32 cr3, D), (.slice ad 32 cd, A), (.slice azz 32 czz, 0), (.slice ax 32 cx, A), (.slice ai 32 ci, I)] from HK21.out.add hf hv)
  have HF22 := Lib.hid (HF21.out.then hf)
  clear hf hv HK21 HF21
  clear hc0 hc1 hc2 hc3 hc4
  go_wp2_with fail
  refine (NMul_v 1 m HKK.out _ _ A I 1 _ (HK22.out.get 0 rfl) (HK22.out.get 21 rfl) HLA.out HLI.out HEpi.out).mono ?_
  rintro e w23 ⟨api, cpi, rfl, hv, hf⟩
  have HK23 := Lib.hid (show Kp w23 [(.slice aa 32 ca, A), (.slice ab 32 cb, B), (.slice ac 32 cc, C), (.slice az 32 32, 0), (.slice aone 32 32, 1), (.slice aab 32 cab, AB), (.slice aba 32 cba, AB), (.slice abc 32 cbc, BC), (.slice al1 32 cl1, S), (.slice ar1 32 cr1, S), (.slice am 32 cm, P), (.slice an 32 cn, P), (.slice abm 32 cbm, Q), (.slice al2 32 cl2, T), (.slice ar2 32 cr2, T), (.slice aac 32 cac, AC), (.slice al3 32 cl3, D), (.slice ar3 32 cr3, D), (.slice ad 32 cd, A), (.slice azz 32 czz, 0), (.slice ax 32 cx, A), (.slice ai 32 ci, I), (.slice api 32 cpi, 1)] from HK22.out.add hf hv)
  have HF23 := Lib.hid (HF22.out.then hf)
  clear hf hv HK22 HF22
  have hc0 := run_string (P := Try.prog) (HK23.out.rd 0 rfl) ca Try.underlying29 Try.underlying5 Try.underlying9
  have hc1 := run_string (P := Try.prog) (HK23.out.rd 3 rfl) 32 Try.underlying29 Try.underlying5 Try.underlying9
  have hc2 := run_string (P := Try.prog) (HK23.out.rd 22 rfl) cpi Try.underlying29 Try.underlying5 Try.underlying9
  have hc3 := run_string (P := Try.prog) (HK23.out.rd 4 rfl) 32 Try.underlying29 Try.underlying5 Try.underlying9
  have hc4 := run_string (P := Try.prog) (HK23.out.rd 21 rfl) ci Try.underlying29 Try.underlying5 Try.underlying9
  have hne := HNE.out
  have HFE := Lib.hid HF23.out
  go_wp2_with fail
  go_ret
  exact ⟨rfl, HFE.out⟩

set_option maxHeartbeats 32000000 in
set_option maxRecDepth 1000000 in
theorem NumLaws_k1_n_p (kd : Int) (m : Md) (hk : KindOf 1 m) (s t u : ByteArray) (w0 : World) (hs : s.size ≤ 1024) (ht : t.size ≤ 1024) (hu : u.size ≤ 1024) (A B C AB BC S P Q T AC D I PI : Nat) (eab : (A + B) % m.M = AB) (eba : (B + A) % m.M = AB) (ebc : (B + C) % m.M = BC) (el1 : (AB + C) % m.M = S) (er1 : (A + BC) % m.M = S) (em : A * B % m.M = P) (en : B * A % m.M = P) (ebm : B * C % m.M = Q) (el2 : P * C % m.M = T) (er2 : A * Q % m.M = T) (eac : A * C % m.M = AC) (el3 : A * BC % m.M = D) (er3 : (P + AC) % m.M = D) (ed : (AB + (m.M - B)) % m.M = A) (ezz : (A + (m.M - A)) % m.M = 0) (ex : A * 1 % m.M = A) (ei : A ^ (m.M - 2) % m.M = I) (epi : A * I % m.M = PI) (lA : A < m.M) (lB : B < m.M) (lC : C < m.M) (lAB : AB < m.M) (lBC : BC < m.M) (lP : P < m.M) (lQ : Q < m.M) (lAC : AC < m.M) (lI : I < m.M) (l1 : 1 < m.M) (l0 : 0 < m.M) (rA : beN s.data.toList % m.M = A) (rB : beN t.data.toList % m.M = B) (rC : beN u.data.toList % m.M = C) (hA : A ≠ 0) (hPI : PI = 1) (hkd : ¬ (kd < 0)) (hlo : -9223372036854775808 ≤ kd ∧ kd ≤ 9223372036854775807) (hrem : kd % 2 = 1) :
    Calls Try.prog 8 #[.int .i64 kd, .string s, .string t, .string u] w0 fun e w' => e = .returned (.bool true) ∧ Fr Nob w0 w' := by
  have hgs : ¬ ((1024 : Int) < (s.size : Int)) := by omega
  have hgt : ¬ ((1024 : Int) < (t.size : Int)) := by omega
  have hgu : ¬ ((1024 : Int) < (u.size : Int)) := by omega
  have HREM := Lib.hid hrem
  clear hrem
  have HKK := Lib.hid hk
  have HEab := Lib.hid eab
  have HEba := Lib.hid eba
  have HEbc := Lib.hid ebc
  have HEl1 := Lib.hid el1
  have HEr1 := Lib.hid er1
  have HEm := Lib.hid em
  have HEn := Lib.hid en
  have HEbm := Lib.hid ebm
  have HEl2 := Lib.hid el2
  have HEr2 := Lib.hid er2
  have HEac := Lib.hid eac
  have HEl3 := Lib.hid el3
  have HEr3 := Lib.hid er3
  have HEd := Lib.hid ed
  have HEzz := Lib.hid ezz
  have HEx := Lib.hid ex
  have HEi := Lib.hid ei
  have HEpi := Lib.hid epi
  have HLA := Lib.hid lA
  have HLB := Lib.hid lB
  have HLC := Lib.hid lC
  have HLAB := Lib.hid lAB
  have HLBC := Lib.hid lBC
  have HLP := Lib.hid lP
  have HLQ := Lib.hid lQ
  have HLAC := Lib.hid lAC
  have HLI := Lib.hid lI
  have HL1 := Lib.hid l1
  have HL0 := Lib.hid l0
  have HRA := Lib.hid rA
  have HRB := Lib.hid rB
  have HRC := Lib.hid rC
  have HSs := Lib.hid hs
  have HSt := Lib.hid ht
  have HSu := Lib.hid hu
  have HNE := Lib.hid (str_ne (Nat.lt_trans lA hk.ok.lt) (show 0 < B64 ^ 4 by decide) hA)
  clear hk eab eba ebc el1 er1 em en ebm el2 er2 eac el3 er3 ed ezz ex ei epi lA lB lC lAB lBC lP lQ lAC lI l1 l0 rA rB rC hs ht hu hA
  subst hPI
  obtain ⟨hlo1, hlo2⟩ := hlo
  go_enter Try.func8, Try.ntmps8
  have HK0 := Lib.hid (Kp.nil w0)
  have HF0 := Lib.hid (Fr.refl Nob w0)
  go_wp2_with (with_reducible refine wl_stop (o := ⟨some 74, _, _, _, _, _⟩) ?_)
  rw [HREM.out]
  refine wl_bytes (q := s) rfl rfl Try.underlying9 Try.underlying29 Try.underlying5 rfl (by have := HSs.out; unfold maxLen; omega) w0.heap.size (Nat.le_refl _) ?_
  intro cap wb hown hfb hzb
  clear hzb
  have HPB := Lib.hid (BPart.ofOwn hown)
  generalize w0.heap.size = gb at *
  have HKb := Lib.hid (HK0.out.still hfb)
  have HFb := Lib.hid (HF0.out.then hfb)
  clear hown hfb HK0 HF0
  rename Hid (Kp wb _) => HK0
  rename Hid (Fr Nob w0 wb) => HF0
  go_wp2_with fail
  refine (NReduce_v 1 m HKK.out _ s.data.toList A _ HPB.out (by have := HSs.out; simpa using this) HRA.out).mono ?_
  rintro e w1 ⟨aa, ca, rfl, hv, hf⟩
  have HK1 := Lib.hid (show Kp w1 [(.slice aa 32 ca, A)] from HK0.out.add hf hv)
  have HF1 := Lib.hid (HF0.out.then hf)
  clear hf hv HK0 HF0
  clear HPB
  go_wp2_with (with_reducible refine wl_stop (o := ⟨some 81, _, _, _, _, _⟩) ?_)
  refine wl_bytes (q := t) rfl rfl Try.underlying9 Try.underlying29 Try.underlying5 rfl (by have := HSt.out; unfold maxLen; omega) w1.heap.size (Nat.le_refl _) ?_
  intro cap wb hown hfb hzb
  clear hzb
  have HPB := Lib.hid (BPart.ofOwn hown)
  generalize w1.heap.size = gb at *
  have HKb := Lib.hid (HK1.out.still hfb)
  have HFb := Lib.hid (HF1.out.then hfb)
  clear hown hfb HK1 HF1
  rename Hid (Kp wb _) => HK1
  rename Hid (Fr Nob w0 wb) => HF1
  go_wp2_with fail
  refine (NReduce_v 1 m HKK.out _ t.data.toList B _ HPB.out (by have := HSt.out; simpa using this) HRB.out).mono ?_
  rintro e w2 ⟨ab, cb, rfl, hv, hf⟩
  have HK2 := Lib.hid (show Kp w2 [(.slice aa 32 ca, A), (.slice ab 32 cb, B)] from HK1.out.add hf hv)
  have HF2 := Lib.hid (HF1.out.then hf)
  clear hf hv HK1 HF1
  clear HPB
  go_wp2_with (with_reducible refine wl_stop (o := ⟨some 88, _, _, _, _, _⟩) ?_)
  refine wl_bytes (q := u) rfl rfl Try.underlying9 Try.underlying29 Try.underlying5 rfl (by have := HSu.out; unfold maxLen; omega) w2.heap.size (Nat.le_refl _) ?_
  intro cap wb hown hfb hzb
  clear hzb
  have HPB := Lib.hid (BPart.ofOwn hown)
  generalize w2.heap.size = gb at *
  have HKb := Lib.hid (HK2.out.still hfb)
  have HFb := Lib.hid (HF2.out.then hfb)
  clear hown hfb HK2 HF2
  rename Hid (Kp wb _) => HK2
  rename Hid (Fr Nob w0 wb) => HF2
  go_wp2_with fail
  refine (NReduce_v 1 m HKK.out _ u.data.toList C _ HPB.out (by have := HSu.out; simpa using this) HRC.out).mono ?_
  rintro e w3 ⟨ac, cc, rfl, hv, hf⟩
  have HK3 := Lib.hid (show Kp w3 [(.slice aa 32 ca, A), (.slice ab 32 cb, B), (.slice ac 32 cc, C)] from HK2.out.add hf hv)
  have HF3 := Lib.hid (HF2.out.then hf)
  clear hf hv HK2 HF2
  clear HPB
  go_wp2_with (with_reducible refine wl_stop (o := ⟨some 107, _, _, _, _, _⟩) ?_)
  refine wl_make rfl rfl Try.underlying29 info_u8 rfl rfl rfl 32 32 (by simp) (by simp) (by omega) (by omega) (by unfold maxLen; omega) ?_
  intro w4 hgz hf hzz
  clear hzz
  have hv : BPart w4 (.slice (some ⟨w3.heap.size, 0, none⟩) 32 32) (be32 0) := ⟨_, 32, 32, rfl, by omega, by rw [be32_zero]; exact Rd.whole hgz⟩
  have HGZ := Lib.hid hgz
  clear hgz
  generalize haz : (some (⟨w3.heap.size, 0, none⟩ : Addr)) = az at *
  clear haz HGZ
  have HK4 := Lib.hid (show Kp w4 [(.slice aa 32 ca, A), (.slice ab 32 cb, B), (.slice ac 32 cc, C), (.slice az 32 32, 0)] from HK3.out.add hf hv)
  have HF4 := Lib.hid (HF3.out.then hf)
  clear hf hv HK3 HF3
  go_wp2_with (with_reducible refine wl_stop (o := ⟨some 108, _, _, _, _, _⟩) ?_)
  refine wl_make rfl rfl Try.underlying29 info_u8 rfl rfl rfl 32 32 (by simp) (by simp) (by omega) (by omega) (by unfold maxLen; omega) ?_
  intro wm hgo hfm hzo
  clear hzo
  generalize hgw : w4.heap.size = go at *
  have HGW := Lib.hid hgw
  clear hgw
  obtain ⟨z31, hz1, hz2⟩ := hgo.ready (i := 31) (by simp)
  have HGO := Lib.hid hgo
  have HFM := Lib.hid hfm
  clear hgo hfm
  go_wp2_with fail
  obtain ⟨w5, hwn⟩ : ∃ x, x = wm.setCell ⟨go, 31, none⟩ (.int .u8 1) := ⟨_, rfl⟩
  have hgs := HGO.out.set 31 (.int .u8 1)
  have hfs : Fr Nob w4 (wm.setCell ⟨go, 31, none⟩ (.int .u8 1)) := HFM.out.trans ((Fr.refl (One go) wm).setCell go 31 none _ (fun _ => rfl)) (fun j hj hjg => by have e : j = go := hjg; have := HGW.out; omega)
  rw [← hwn] at hgs hfs ⊢
  clear hwn hz1 hz2
  have hf := hfs
  clear hfs
  have hv : BPart w5 (.slice (some ⟨go, 0, none⟩) 32 32) (be32 1) := ⟨_, 32, 32, rfl, by omega, by rw [be32_one]; exact Rd.whole hgs⟩
  clear hgs HGO HFM HGW
  generalize (some (⟨go, 0, none⟩ : Addr)) = aone at *
  have HK5 := Lib.hid (show Kp w5 [(.slice aa 32 ca, A), (.slice ab 32 cb, B), (.slice ac 32 cc, C), (.slice az 32 32, 0), (.slice aone 32 32, 1)] from HK4.out.add hf hv)
  have HF5 := Lib.hid (HF4.out.then hf)
  clear hf hv HK4 HF4
  refine (NAdd_v 1 m HKK.out _ _ A B AB _ (HK5.out.get 0 rfl) (HK5.out.get 1 rfl) HLA.out HLB.out HEab.out).mono ?_
  rintro e w6 ⟨aab, cab, rfl, hv, hf⟩
  have HK6 := Lib.hid (show Kp w6 [(.slice aa 32 ca, A), (.slice ab 32 cb, B), (.slice ac 32 cc, C), (.slice az 32 32, 0), (.slice aone 32 32, 1), (.slice aab 32 cab, AB)] from HK5.out.add hf hv)
  have HF6 := Lib.hid (HF5.out.then hf)
  clear hf hv HK5 HF5
  go_wp2_with fail
  refine (NAdd_v 1 m HKK.out _ _ B A AB _ (HK6.out.get 1 rfl) (HK6.out.get 0 rfl) HLB.out HLA.out HEba.out).mono ?_
  rintro e w7 ⟨aba, cba, rfl, hv, hf⟩
  have HK7 := Lib.hid (show Kp w7 [(.slice aa 32 ca, A), (.slice ab 32 cb, B), (.slice ac 32 cc, C), (.slice az 32 32, 0), (.slice aone 32 32, 1), (.slice aab 32 cab, AB), (.slice aba 32 cba, AB)] from HK6.out.add hf hv)
  have HF7 := Lib.hid (HF6.out.then hf)
  clear hf hv HK6 HF6
  go_wp2_with fail
  refine (NAdd_v 1 m HKK.out _ _ B C BC _ (HK7.out.get 1 rfl) (HK7.out.get 2 rfl) HLB.out HLC.out HEbc.out).mono ?_
  rintro e w8 ⟨abc, cbc, rfl, hv, hf⟩
  have HK8 := Lib.hid (show Kp w8 [(.slice aa 32 ca, A), (.slice ab 32 cb, B), (.slice ac 32 cc, C), (.slice az 32 32, 0), (.slice aone 32 32, 1), (.slice aab 32 cab, AB), (.slice aba 32 cba, AB), (.slice abc 32 cbc, BC)] from HK7.out.add hf hv)
  have HF8 := Lib.hid (HF7.out.then hf)
  clear hf hv HK7 HF7
  go_wp2_with fail
  refine (NAdd_v 1 m HKK.out _ _ AB C S _ (HK8.out.get 5 rfl) (HK8.out.get 2 rfl) HLAB.out HLC.out HEl1.out).mono ?_
  rintro e w9 ⟨al1, cl1, rfl, hv, hf⟩
  have HK9 := Lib.hid (show Kp w9 [(.slice aa 32 ca, A), (.slice ab 32 cb, B), (.slice ac 32 cc, C), (.slice az 32 32, 0), (.slice aone 32 32, 1), (.slice aab 32 cab, AB), (.slice aba 32 cba, AB), (.slice abc 32 cbc, BC), (.slice al1 32 cl1, S)] from HK8.out.add hf hv)
  have HF9 := Lib.hid (HF8.out.then hf)
  clear hf hv HK8 HF8
  go_wp2_with fail
  refine (NAdd_v 1 m HKK.out _ _ A BC S _ (HK9.out.get 0 rfl) (HK9.out.get 7 rfl) HLA.out HLBC.out HEr1.out).mono ?_
  rintro e w10 ⟨ar1, cr1, rfl, hv, hf⟩
  have HK10 := Lib.hid (show Kp w10 [(.slice aa 32 ca, A), (.slice ab 32 cb, B), (.slice ac 32 cc, C), (.slice az 32 32, 0), (.slice aone 32 32, 1), (.slice aab 32 cab, AB), (.slice aba 32 cba, AB), (.slice abc 32 cbc, BC), (.slice al1 32 cl1, S), (.slice ar1 32 cr1, S)] from HK9.out.add hf hv)
  have HF10 := Lib.hid (HF9.out.then hf)
  clear hf hv HK9 HF9
  have hc0 := run_string (P := Try.prog) (HK10.out.rd 5 rfl) cab Try.underlying29 Try.underlying5 Try.underlying9
  have hc1 := run_string (P := Try.prog) (HK10.out.rd 6 rfl) cba Try.underlying29 Try.underlying5 Try.underlying9
  have hc2 := run_string (P := Try.prog) (HK10.out.rd 8 rfl) cl1 Try.underlying29 Try.underlying5 Try.underlying9
  have hc3 := run_string (P := Try.prog) (HK10.out.rd 9 rfl) cr1 Try.underlying29 Try.underlying5 Try.underlying9
  go_wp2_with fail
  refine (NMul_v 1 m HKK.out _ _ A B P _ (HK10.out.get 0 rfl) (HK10.out.get 1 rfl) HLA.out HLB.out HEm.out).mono ?_
  rintro e w11 ⟨am, cm, rfl, hv, hf⟩
  have HK11 := Lib.hid (show Kp w11 [(.slice aa 32 ca, A), (.slice ab 32 cb, B), (.slice ac 32 cc, C), (.slice az 32 32, 0), (.slice aone 32 32, 1), (.slice aab 32 cab, AB), (.slice aba 32 cba, AB), (.slice abc 32 cbc, BC), (.slice al1 32 cl1, S), (.slice ar1 32 cr1, S), (.slice am 32 cm, P)] from HK10.out.add hf hv)
  have HF11 := Lib.hid (HF10.out.then hf)
  clear hf hv HK10 HF10
  clear hc0 hc1 hc2 hc3
  go_wp2_with fail
  refine (NMul_v 1 m HKK.out _ _ B A P _ (HK11.out.get 1 rfl) (HK11.out.get 0 rfl) HLB.out HLA.out HEn.out).mono ?_
  rintro e w12 ⟨an, cn, rfl, hv, hf⟩
  have HK12 := Lib.hid (show Kp w12 [(.slice aa 32 ca, A), (.slice ab 32 cb, B), (.slice ac 32 cc, C), (.slice az 32 32, 0), (.slice aone 32 32, 1), (.slice aab 32 cab, AB), (.slice aba 32 cba, AB), (.slice abc 32 cbc, BC), (.slice al1 32 cl1, S), (.slice ar1 32 cr1, S), (.slice am 32 cm, P), (.slice an 32 cn, P)] from HK11.out.add hf hv)
  have HF12 := Lib.hid (HF11.out.then hf)
  clear hf hv HK11 HF11
  go_wp2_with fail
  refine (NMul_v 1 m HKK.out _ _ B C Q _ (HK12.out.get 1 rfl) (HK12.out.get 2 rfl) HLB.out HLC.out HEbm.out).mono ?_
  rintro e w13 ⟨abm, cbm, rfl, hv, hf⟩
  have HK13 := Lib.hid (show Kp w13 [(.slice aa 32 ca, A), (.slice ab 32 cb, B), (.slice ac 32 cc, C), (.slice az 32 32, 0), (.slice aone 32 32, 1), (.slice aab 32 cab, AB), (.slice aba 32 cba, AB), (.slice abc 32 cbc, BC), (.slice al1 32 cl1, S), (.slice ar1 32 cr1, S), (.slice am 32 cm, P), (.slice an 32 cn, P), (.slice abm 32 cbm, Q)] from HK12.out.add hf hv)
  have HF13 := Lib.hid (HF12.out.then hf)
  clear hf hv HK12 HF12
  go_wp2_with fail
  refine (NMul_v 1 m HKK.out _ _ P C T _ (HK13.out.get 10 rfl) (HK13.out.get 2 rfl) HLP.out HLC.out HEl2.out).mono ?_
  rintro e w14 ⟨al2, cl2, rfl, hv, hf⟩
  have HK14 := Lib.hid (show Kp w14 [(.slice aa 32 ca, A), (.slice ab 32 cb, B), (.slice ac 32 cc, C), (.slice az 32 32, 0), (.slice aone 32 32, 1), (.slice aab 32 cab, AB), (.slice aba 32 cba, AB), (.slice abc 32 cbc, BC), (.slice al1 32 cl1, S), (.slice ar1 32 cr1, S), (.slice am 32 cm, P), (.slice an 32 cn, P), (.slice abm 32 cbm, Q), (.slice al2 32 cl2, T)] from HK13.out.add hf hv)
  have HF14 := Lib.hid (HF13.out.then hf)
  clear hf hv HK13 HF13
  go_wp2_with fail
  refine (NMul_v 1 m HKK.out _ _ A Q T _ (HK14.out.get 0 rfl) (HK14.out.get 12 rfl) HLA.out HLQ.out HEr2.out).mono ?_
  rintro e w15 ⟨ar2, cr2, rfl, hv, hf⟩
  have HK15 := Lib.hid (show Kp w15 [(.slice aa 32 ca, A), (.slice ab 32 cb, B), (.slice ac 32 cc, C), (.slice az 32 32, 0), (.slice aone 32 32, 1), (.slice aab 32 cab, AB), (.slice aba 32 cba, AB), (.slice abc 32 cbc, BC), (.slice al1 32 cl1, S), (.slice ar1 32 cr1, S), (.slice am 32 cm, P), (.slice an 32 cn, P), (.slice abm 32 cbm, Q), (.slice al2 32 cl2, T), (.slice ar2 32 cr2, T)] from HK14.out.add hf hv)
  have HF15 := Lib.hid (HF14.out.then hf)
  clear hf hv HK14 HF14
  have hc0 := run_string (P := Try.prog) (HK15.out.rd 10 rfl) cm Try.underlying29 Try.underlying5 Try.underlying9
  have hc1 := run_string (P := Try.prog) (HK15.out.rd 11 rfl) cn Try.underlying29 Try.underlying5 Try.underlying9
  have hc2 := run_string (P := Try.prog) (HK15.out.rd 13 rfl) cl2 Try.underlying29 Try.underlying5 Try.underlying9
  have hc3 := run_string (P := Try.prog) (HK15.out.rd 14 rfl) cr2 Try.underlying29 Try.underlying5 Try.underlying9
  go_wp2_with fail
  refine (NMul_v 1 m HKK.out _ _ A C AC _ (HK15.out.get 0 rfl) (HK15.out.get 2 rfl) HLA.out HLC.out HEac.out).mono ?_
  rintro e w16 ⟨aac, cac, rfl, hv, hf⟩
  have HK16 := Lib.hid (show Kp w16 [(.slice aa 32 ca, A), (.slice ab 32 cb, B), (.slice ac 32 cc, C), (.slice az 32 32, 0), (.slice aone 32 32, 1), (.slice aab 32 cab, AB), (.slice aba 32 cba, AB), (.slice abc 32 cbc, BC), (.slice al1 32 cl1, S), (.slice ar1 32 cr1, S), (.slice am 32 cm, P), (.slice an 32 cn, P), (.slice abm 32 cbm, Q), (.slice al2 32 cl2, T), (.slice ar2 32 cr2, T), (.slice aac 32 cac, AC)] from HK15.out.add hf hv)
  have HF16 := Lib.hid (HF15.out.then hf)
  clear hf hv HK15 HF15
  clear hc0 hc1 hc2 hc3
  go_wp2_with fail
  refine (NMul_v 1 m HKK.out _ _ A BC D _ (HK16.out.get 0 rfl) (HK16.out.get 7 rfl) HLA.out HLBC.out HEl3.out).mono ?_
  rintro e w17 ⟨al3, cl3, rfl, hv, hf⟩
  have HK17 := Lib.hid (show Kp w17 [(.slice aa 32 ca, A), (.slice ab 32 cb, B), (.slice ac 32 cc, C), (.slice az 32 32, 0), (.slice aone 32 32, 1), (.slice aab 32 cab, AB), (.slice aba 32 cba, AB), (.slice abc 32 cbc, BC), (.slice al1 32 cl1, S), (.slice ar1 32 cr1, S), (.slice am 32 cm, P), (.slice an 32 cn, P), (.slice abm 32 cbm, Q), (.slice al2 32 cl2, T), (.slice ar2 32 cr2, T), (.slice aac 32 cac, AC), (.slice al3 32 cl3, D)] from HK16.out.add hf hv)
  have HF17 := Lib.hid (HF16.out.then hf)
  clear hf hv HK16 HF16
  go_wp2_with fail
  refine (NAdd_v 1 m HKK.out _ _ P AC D _ (HK17.out.get 10 rfl) (HK17.out.get 15 rfl) HLP.out HLAC.out HEr3.out).mono ?_
  rintro e w18 ⟨ar3, cr3, rfl, hv, hf⟩
  have HK18 := Lib.hid (show Kp w18 [(.slice aa 32 ca, A), (.slice ab 32 cb, B), (.slice ac 32 cc, C), (.slice az 32 32, 0), (.slice aone 32 32, 1), (.slice aab 32 cab, AB), (.slice aba 32 cba, AB), (.slice abc 32 cbc, BC), (.slice al1 32 cl1, S), (.slice ar1 32 cr1, S), (.slice am 32 cm, P), (.slice an 32 cn, P), (.slice abm 32 cbm, Q), (.slice al2 32 cl2, T), (.slice ar2 32 cr2, T), (.slice aac 32 cac, AC), (.slice al3 32 cl3, D), (.slice ar3 32 cr3, D)] from HK17.out.add hf hv)
  have HF18 := Lib.hid (HF17.out.then hf)
  clear hf hv HK17 HF17
  have hc0 := run_string (P := Try.prog) (HK18.out.rd 16 rfl) cl3 Try.underlying29 Try.underlying5 Try.underlying9
  have hc1 := run_string (P := Try.prog) (HK18.out.rd 17 rfl) cr3 Try.underlying29 Try.underlying5 Try.underlying9
  go_wp2_with fail
  refine (NSub_v 1 m HKK.out _ _ AB B A _ (HK18.out.get 5 rfl) (HK18.out.get 1 rfl) HLAB.out HLB.out HEd.out).mono ?_
  rintro e w19 ⟨ad, cd, rfl, hv, hf⟩
  have HK19 := Lib.hid (show Kp w19 [(.slice aa 32 ca, A), (.slice ab 32 cb, B), (.slice ac 32 cc, C), (.slice az 32 32, 0), (.slice aone 32 32, 1), (.slice aab 32 cab, AB), (.slice aba 32 cba, AB), (.slice abc 32 cbc, BC), (.slice al1 32 cl1, S), (.slice ar1 32 cr1, S), (.slice am 32 cm, P), (.slice an 32 cn, P), (.slice abm 32 cbm, Q), (.slice al2 32 cl2, T), (.slice ar2 32 cr2, T), (.slice aac 32 cac, AC), (.slice al3 32 cl3, D), (.slice ar3 32 cr3, D), (.slice ad 32 cd, A)] from HK18.out.add hf hv)
  have HF19 := Lib.hid (HF18.out.then hf)
  clear hf hv HK18 HF18
  clear hc0 hc1
  go_wp2_with fail
  refine (NSub_v 1 m HKK.out _ _ A A 0 _ (HK19.out.get 0 rfl) (HK19.out.get 0 rfl) HLA.out HLA.out HEzz.out).mono ?_
  rintro e w20 ⟨azz, czz, rfl, hv, hf⟩
  have HK20 := Lib.hid (show Kp w20 [(.slice aa 32 ca, A), (.slice ab 32 cb, B), (.slice ac 32 cc, C), (.slice az 32 32, 0), (.slice aone 32 32, 1), (.slice aab 32 cab, AB), (.slice aba 32 cba, AB), (.slice abc 32 cbc, BC), (.slice al1 32 cl1, S), (.slice ar1 32 cr1, S), (.slice am 32 cm, P), (.slice an 32 cn, P), (.slice abm 32 cbm, Q), (.slice al2 32 cl2, T), (.slice ar2 32 cr2, T), (.slice aac 32 cac, AC), (.slice al3 32 cl3, D), (.slice ar3 32 cr3, D), (.slice ad 32 cd, A), (.slice azz 32 czz, 0)] from HK19.out.add hf hv)
  have HF20 := Lib.hid (HF19.out.then hf)
  clear hf hv HK19 HF19
  go_wp2_with fail
  refine (NMul_v 1 m HKK.out _ _ A 1 A _ (HK20.out.get 0 rfl) (HK20.out.get 4 rfl) HLA.out HL1.out HEx.out).mono ?_
  rintro e w21 ⟨ax, cx, rfl, hv, hf⟩
  have HK21 := Lib.hid (show Kp w21 [(.slice aa 32 ca, A), (.slice ab 32 cb, B), (.slice ac 32 cc, C), (.slice az 32 32, 0), (.slice aone 32 32, 1), (.slice aab 32 cab, AB), (.slice aba 32 cba, AB), (.slice abc 32 cbc, BC), (.slice al1 32 cl1, S), (.slice ar1 32 cr1, S), (.slice am 32 cm, P), (.slice an 32 cn, P), (.slice abm 32 cbm, Q), (.slice al2 32 cl2, T), (.slice ar2 32 cr2, T), (.slice aac 32 cac, AC), (.slice al3 32 cl3, D), (.slice ar3 32 cr3, D), (.slice ad 32 cd, A), (.slice azz 32 czz, 0), (.slice ax 32 cx, A)] from HK20.out.add hf hv)
  have HF21 := Lib.hid (HF20.out.then hf)
  clear hf hv HK20 HF20
  have hc0 := run_string (P := Try.prog) (HK21.out.rd 18 rfl) cd Try.underlying29 Try.underlying5 Try.underlying9
  have hc1 := run_string (P := Try.prog) (HK21.out.rd 0 rfl) ca Try.underlying29 Try.underlying5 Try.underlying9
  have hc2 := run_string (P := Try.prog) (HK21.out.rd 19 rfl) czz Try.underlying29 Try.underlying5 Try.underlying9
  have hc3 := run_string (P := Try.prog) (HK21.out.rd 3 rfl) 32 Try.underlying29 Try.underlying5 Try.underlying9
  have hc4 := run_string (P := Try.prog) (HK21.out.rd 20 rfl) cx Try.underlying29 Try.underlying5 Try.underlying9
  go_wp2_with fail
  refine (NInv_v 1 m HKK.out _ A I _ (HK21.out.get 0 rfl) HLA.out HEi.out).mono ?_
  rintro e w22 ⟨ai, ci, rfl, hv, hf⟩
  have HK22 := Lib.hid (show Kp w22 [(.slice aa 32 ca, A), (.slice ab 32 cb, B), (.slice ac 32 cc, C), (.slice az 32 32, 0), (.slice aone 32 32, 1), (.slice aab 32 cab, AB), (.slice aba 32 cba, AB), (.slice abc 32 cbc, BC), (.slice al1 32 cl1, S), (.slice ar1 32 cr1, S), (.slice am 32 cm, P), (.slice an 32 cn, P), (.slice abm 32 cbm, Q), (.slice al2 32 cl2, T), (.slice ar2 32 cr2, T), (.slice aac 32 cac, AC), (.slice al3 32 cl3, D), (.slice ar3 32 cr3, D), (.slice ad 32 cd, A), (.slice azz 32 czz, 0), (.slice ax 32 cx, A), (.slice ai 32 ci, I)] from HK21.out.add hf hv)
  have HF22 := Lib.hid (HF21.out.then hf)
  clear hf hv HK21 HF21
  clear hc0 hc1 hc2 hc3 hc4
  go_wp2_with fail
  refine (NMul_v 1 m HKK.out _ _ A I 1 _ (HK22.out.get 0 rfl) (HK22.out.get 21 rfl) HLA.out HLI.out HEpi.out).mono ?_
  rintro e w23 ⟨api, cpi, rfl, hv, hf⟩
  have HK23 := Lib.hid (show Kp w23 [(.slice aa 32 ca, A), (.slice ab 32 cb, B), (.slice ac 32 cc, C), (.slice az 32 32, 0), (.slice aone 32 32, 1), (.slice aab 32 cab, AB), (.slice aba 32 cba, AB), (.slice abc 32 cbc, BC), (.slice al1 32 cl1, S), (.slice ar1 32 cr1, S), (.slice am 32 cm, P), (.slice an 32 cn, P), (.slice abm 32 cbm, Q), (.slice al2 32 cl2, T), (.slice ar2 32 cr2, T), (.slice aac 32 cac, AC), (.slice al3 32 cl3, D), (.slice ar3 32 cr3, D), (.slice ad 32 cd, A), (.slice azz 32 czz, 0), (.slice ax 32 cx, A), (.slice ai 32 ci, I), (.slice api 32 cpi, 1)] from HK22.out.add hf hv)
  have HF23 := Lib.hid (HF22.out.then hf)
  clear hf hv HK22 HF22
  have hc0 := run_string (P := Try.prog) (HK23.out.rd 0 rfl) ca Try.underlying29 Try.underlying5 Try.underlying9
  have hc1 := run_string (P := Try.prog) (HK23.out.rd 3 rfl) 32 Try.underlying29 Try.underlying5 Try.underlying9
  have hc2 := run_string (P := Try.prog) (HK23.out.rd 22 rfl) cpi Try.underlying29 Try.underlying5 Try.underlying9
  have hc3 := run_string (P := Try.prog) (HK23.out.rd 4 rfl) 32 Try.underlying29 Try.underlying5 Try.underlying9
  have hc4 := run_string (P := Try.prog) (HK23.out.rd 21 rfl) ci Try.underlying29 Try.underlying5 Try.underlying9
  have hne := HNE.out
  have HFE := Lib.hid HF23.out
  go_wp2_with fail
  go_ret
  exact ⟨rfl, HFE.out⟩
end Go.Proofs.Ytmegaegedlbckaa
