/- tree.Grown. -/
import Derived.Test.YtgkakddldobpkaaTree5
import Derived.Test.YtgkakddldobpkaaTree8
import Derived.Test.YtgkakddldobpkaaBegins
import Derived.Deep.DeepCutAuto
namespace Go.Proofs.Ytgkakddldobpkaa
open Go.RowKit Go.Mv Mvp Mvt
attribute [local irreducible] permS permP toB turnsK squeeze permN permB spongeB feed frameL framesL tagL leafL nodeL

/-- a part that does not lie in block g -/
def POff (w : World) (g : Nat) (v : Value) (l : List UInt8) : Prop := ∃ a n c, v = .slice a n c ∧ n ≤ c ∧ n ≤ 1000000 ∧ RdB w a n l ∧ Old w a ∧ Off (Mv.One g) a
theorem POff.part {w : World} {g : Nat} {v : Value} {l : List UInt8} (h : POff w g v l) : PartIs w v l := by
  obtain ⟨a, n, c, h1, h2, h3, h4, h5, _⟩ := h; exact ⟨a, n, c, h1, h2, h3, h4, h5⟩
theorem POff.still {w w' : World} {g : Nat} {v : Value} {l : List UInt8} (h : POff w g v l) (hf : Fr Nob w w') : POff w' g v l := by
  obtain ⟨a, n, c, h1, h2, h3, h4, h5, h6⟩ := h; exact ⟨a, n, c, h1, h2, h3, h4.still hf, h5.grow hf.size, h6⟩
theorem POff.one {w w' : World} {g : Nat} {v : Value} {l : List UInt8} (h : POff w g v l) (hf : Fr (Mv.One g) w w') : POff w' g v l := by
  obtain ⟨a, n, c, h1, h2, h3, h4, h5, h6⟩ := h; exact ⟨a, n, c, h1, h2, h3, h4.keep hf h6, h5.grow hf.size, h6⟩
theorem POff.old {w : World} {g : Nat} {v : Value} {l : List UInt8} (h : PartIs w v l) (hg : w.heap.size ≤ g) : POff w g v l := by
  obtain ⟨a, n, c, h1, h2, h3, h4, h5⟩ := h; exact ⟨a, n, c, h1, h2, h3, h4, h5, h5.off hg⟩
theorem POff.own {w : World} {g base : Nat} {v : Value} {n : Nat} {l : List UInt8} (h : Own w base 5 1 v n (bs l)) (hn : n ≤ 1000000) {L : List Value} {T : TypeId} (hg : Has w g L T) (hT : 5 ≠ T) : POff w g v l := by
  have hp := own_part h hn
  obtain ⟨a, n', c, rfl, h2, h3, h4, h5⟩ := hp
  refine ⟨a, n', c, rfl, h2, h3, h4, h5, ?_⟩
  intro x hx (e : x.block = g)
  refine h.ne hg hT ?_
  subst hx
  show some x.block = some g
  rw [e]
theorem PartsAt.tail {w : World} {a : Option Addr} {x : List UInt8} {ls : List (List UInt8)} (h : PartsAt w a (x :: ls)) (c : Nat) (hc : ls.length + 1 ≤ c) : PartsAt w (cutAt a 1 c) ls := by
  obtain ⟨vs, hr, hv⟩ := h
  have h1 := cutAt_rd hr 1 (ls.length + 1) c (by omega) hc (by simp)
  have hl := hr.len
  refine ⟨vs.drop 1, ?_, ?_⟩
  · rw [List.take_of_length_le (by rw [List.length_drop, hl]; simp)] at h1
    simpa using h1
  · intro i v hi
    rw [List.getElem?_drop] at hi
    obtain ⟨l, h2, h3⟩ := hv (1 + i) v hi
    refine ⟨l, ?_, h3⟩
    rw [Nat.add_comm 1 i, List.getElem?_cons_succ] at h2
    exact h2

/-- what the program answers, for m below n -/
def grownL (old root : List UInt8) (m n : Nat) (gl : List (List UInt8)) : Bool :=
  match grow0 nodeL (m - 1) (n - 1) gl with
  | some (x, y) => decide (x = old) && decide (y = root)
  | none => false

set_option maxHeartbeats 1000000 in
set_option maxRecDepth 1000000 in
theorem grown_bad (r : Option Addr) (rn rc : Nat) (m n : Int) (a : Option Addr) (an ac : Nat) (p : Option Addr) (c : Nat) (ls : List (List UInt8)) (w : World) (hm : ls.length ≤ 1000000) (hb : PartsAt w p ls)
    (h : n < 1 ∨ 1048576 < n ∨ m < 1 ∨ n < m ∨ sz32 ls = false) :
    Calls Try.prog 33 #[.slice r rn rc, .int .i64 m, .slice a an ac, .int .i64 n, .slice p ls.length c] w fun e w' => e = .returned (.bool false) ∧ w = w' := by
  have h' : n < 1 ∨ (¬ n < 1 ∧ 1048576 < n) ∨ (¬ n < 1 ∧ ¬ 1048576 < n ∧ m < 1) ∨ (¬ n < 1 ∧ ¬ 1048576 < n ∧ ¬ m < 1 ∧ n < m) ∨ (¬ n < 1 ∧ ¬ 1048576 < n ∧ ¬ m < 1 ∧ ¬ n < m ∧ sz32 ls = false) := by
    by_cases h1 : n < 1
    · exact .inl h1
    by_cases h2 : 1048576 < n
    · exact .inr (.inl ⟨h1, h2⟩)
    by_cases h3 : m < 1
    · exact .inr (.inr (.inl ⟨h1, h2, h3⟩))
    by_cases h4 : n < m
    · exact .inr (.inr (.inr (.inl ⟨h1, h2, h3, h4⟩)))
    · exact .inr (.inr (.inr (.inr ⟨h1, h2, h3, h4, by simpa [h1, h2, h3, h4] using h⟩)))
  clear h
  go_enter Try.func33, Try.ntmps33
  rcases h' with h1 | ⟨h1, h2⟩ | ⟨h1, h2, h3⟩ | ⟨h1, h2, h3, h4⟩ | ⟨h1, h2, h3, h4, h5⟩
  case inr.inr.inr.inr =>
    have H5 := Lib.hid h5; clear h5
    go_wp2_with fail
    refine (sized_any p c ls w hm hb).mono ?_
    rintro e w' ⟨rfl, rfl⟩
    rw [H5.out]
    go_wp2_with fail
    go_ret
    exact ⟨rfl, rfl⟩
  all_goals
    go_wp2_with fail
    go_ret
    exact ⟨rfl, rfl⟩

set_option maxHeartbeats 1000000 in
set_option maxRecDepth 1000000 in
theorem grown_eq (r : Option Addr) (rn rc : Nat) (old : List UInt8) (m : Nat) (a : Option Addr) (an ac : Nat) (root : List UInt8) (p : Option Addr) (c : Nat) (ls : List (List UInt8)) (w : World) (hm : ls.length ≤ 1000000) (hb : PartsAt w p ls)
    (hr : RdB w r rn old) (ha : RdB w a an root) (hn : 1 ≤ m) (hn2 : m ≤ 1048576) (hs : sz32 ls = true) :
    Calls Try.prog 33 #[.slice r rn rc, .int .i64 m, .slice a an ac, .int .i64 m, .slice p ls.length c] w fun e w' => e = .returned (.bool (decide (ls.length = 0) && decide (old = root))) ∧ Fr Nob w w' := by
  have h1 : ¬ (m : Int) < 1 := by omega
  have h2 : ¬ (1048576 : Int) < (m : Int) := by omega
  have HS := Lib.hid hs; clear hs hn2
  go_enter Try.func33, Try.ntmps33
  go_wp2_with fail
  refine (sized_any p c ls w hm hb).mono ?_
  rintro e w' ⟨rfl, rfl⟩
  rw [HS.out]
  by_cases h0 : ls.length = 0
  · have h0I : ((ls.length : Int) == 0) = true := by simp [h0]
    have H0 := Lib.hid h0
    go_wp2_with fail
    refine (equal_any _ _ _ old _ _ _ root w hr ha).mono ?_
    rintro e w' ⟨rfl, rfl⟩
    go_wp2_with fail
    go_ret
    exact ⟨ret_bool (by simp [H0.out]), Fr.refl _ _⟩
  · have q1 : ((ls.length : Int) == 0) = false := by simpa using h0
    have q2 : (ls.length == 0) = false := by simpa using h0
    have H0 := Lib.hid h0; clear h0 hm
    go_wp2_with fail
    go_ret
    exact ⟨ret_bool (by simp [H0.out]), Fr.refl _ _⟩
end Go.Proofs.Ytgkakddldobpkaa
