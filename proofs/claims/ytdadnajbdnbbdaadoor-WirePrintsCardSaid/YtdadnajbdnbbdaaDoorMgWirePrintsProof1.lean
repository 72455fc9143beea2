/- Words for memory: which blocks may have turned (Fr), a block known whole (Has), a slice that reads as a list of cells (Rd). Nothing here knows of a program; Laws of the walk for make, copy, append and conversions, over the words of Mem. Nothing here knows of a program; Plain lemmas on lists: filling a list from the left; Rules of the walk for words: what Go's operators on 64-bit words and on bytes are on UInt64 and UInt8; Whole arrays in memory: load, store, result, over the words of Mem; Literals of structs and of slices, boxes; One-cell literals of any kind; owned slices and other blocks; What a call knows of the blocks that are its own: one fact for all of them; A region that draws its order, under a condition S on the world that holds till the last operations begin: the head (reads, calls) in an order of the prover's choice, behind it the tail (a store, as a rule) in the text's order; A region that draws its order, as XTail's, where two operations of the head may come in either order (an allocation and a call); A region that draws its order, by a plan: operations that only yield values are taken ahead (w: in whatever world; t: under a condition S on the world, that holds till operation m is carried out), the others are carried out when nothing else can come (r, m), or in either order (b); Two blocks that were made in the other order; A region that draws its order, told as a chain of steps beside fresh blocks (allocs) that may be made at any time between their opening and their joint: each step is shown once; append onto an owned slice, once more: what lay ahead of the new cells is kept, in the old block too; Literals of n one-cell elements; loads and stores of structs by value; An empty slice literal; More makers of one block for the steps of a drawn region: slice literals, boxes; operations that only yield a value; Slices of the call's own that lie apart: one fact for all of them; Wire items, plain: how the program writes an item; how the reference does; they agree. -/
import Derived.WalkKit
import Derived.WalkLawsBesides
import Derived.WalkSpells
import Derived.Lib.Hide
import Derived.Laws.CopyOwn
import Derived.Deep.QuietTactic
import Derived.BigQuiet
import Derived.StillTailTactics
import Derived.Deep.RegionHeld3
import Derived.Deep.RegionWith
import Derived.Deep.DeepFit
import Derived.Deep.MidRow
import Derived.Laws.Tables
import Derived.Great.BuildSlice
import Derived.OrdersHeld
import Derived.StillTail
namespace Go.Mv
open Go.RowKit

/-- no block that was there has turned, but those of S -/
structure Fr (S : Nat → Prop) (w w' : World) : Prop where
  os : w'.os = w.os
  tape : w'.tape = w.tape
  output : w'.output = w.output
  size : w.heap.size ≤ w'.heap.size
  block : ∀ k, k < w.heap.size → ¬ S k → w'.heap[k]? = w.heap[k]?

/-- no block at all -/
def Nob : Nat → Prop := fun _ => False
/-- one block -/
def One (g : Nat) : Nat → Prop := fun k => k = g

theorem Fr.refl (S : Nat → Prop) (w : World) : Fr S w w := ⟨rfl, rfl, rfl, Nat.le_refl _, fun _ _ _ => rfl⟩
theorem Fr.trans {S T : Nat → Prop} {a b c : World} (h : Fr S a b) (k : Fr T b c) (hT : ∀ i, i < a.heap.size → T i → S i) : Fr S a c :=
  ⟨k.os.trans h.os, k.tape.trans h.tape, k.output.trans h.output, Nat.le_trans h.size k.size,
    fun i hi hs => (k.block i (Nat.lt_of_lt_of_le hi h.size) (fun t => hs (hT i hi t))).trans (h.block i hi hs)⟩
theorem Fr.mono {S T : Nat → Prop} {a b : World} (h : Fr S a b) (hT : ∀ i, i < a.heap.size → S i → T i) : Fr T a b :=
  ⟨h.os, h.tape, h.output, h.size, fun i hi hs => h.block i hi (fun t => hs (hT i hi t))⟩
/-- two calls that turn nothing -/
theorem Fr.then {a b c : World} (h : Fr Nob a b) (k : Fr Nob b c) : Fr Nob a c := h.trans k (fun _ _ t => t)
/-- what a call did to a block that is new -/
theorem Fr.new {S : Nat → Prop} {g : Nat} {a b c : World} (h : Fr S a b) (k : Fr (One g) b c) (hg : a.heap.size ≤ g) : Fr S a c :=
  h.trans k (fun i hi t => by have : i = g := t; omega)
theorem Fr.same {S : Nat → Prop} {a b c : World} (h : Fr S a b) (k : Fr Nob b c) : Fr S a c := h.trans k (fun _ _ t => t.elim)
theorem Fr.drew {S : Nat → Prop} {a b : World} (h : Fr S a b) : Fr S a b.drew := ⟨h.os, h.tape, h.output, h.size, h.block⟩
theorem Fr.drewN {S : Nat → Prop} {a b : World} (h : Fr S a b) (n : Nat) : Fr S a (b.drewN n) := ⟨h.os, h.tape, h.output, h.size, h.block⟩
theorem Fr.alloc {S : Nat → Prop} {a b : World} (h : Fr S a b) (o : Obj) : Fr S a (b.alloc o) :=
  h.trans (T := Nob) ⟨rfl, rfl, rfl, by simp, fun k hk _ => Below.heap_alloc b o k hk⟩ (fun _ _ t => t.elim)
theorem Fr.setCell {S : Nat → Prop} {a b : World} (h : Fr S a b) (g i : Nat) (s : Option Nat) (u : Value) (hg : g < a.heap.size → S g) : Fr S a (b.setCell ⟨g, i, s⟩ u) :=
  h.trans (T := One g) ⟨rfl, rfl, rfl, by simp [World.setCell], fun k _ hk => heap_setCell_other b _ k u hk⟩ (fun i hi t => by have e : i = g := t; subst e; exact hg hi)
theorem Fr.below {a b : World} (h : Fr Nob a b) : Below a.heap.size a b := ⟨h.os, h.tape, h.output, h.size, fun k hk => h.block k hk id⟩
theorem Fr.cell {S : Nat → Prop} {a b : World} (h : Fr S a b) {g i : Nat} {v : Value} (hs : ¬ S g) (hc : a.cell? ⟨g, i, none⟩ = some v) : b.cell? ⟨g, i, none⟩ = some v :=
  (World.cell?_of_block (a := ⟨g, i, none⟩) (h.block g (block_lt_of_cell hc) hs)).trans hc

/-- block g holds just the cells L, of type T, and all of them may be written -/
def Has (w : World) (g : Nat) (L : List Value) (T : TypeId) : Prop := ∃ lo hi, w.heap[g]? = some (.cells L.toArray T (lo, hi)) ∧ (lo = hi ∨ L.length ≤ lo)

theorem Has.lt {w : World} {g : Nat} {L : List Value} {T : TypeId} (h : Has w g L T) : g < w.heap.size := by
  obtain ⟨lo, hi, h, -⟩ := h
  rcases Nat.lt_or_ge g w.heap.size with k | k
  · exact k
  · simp [Array.getElem?_eq_none k] at h
theorem Has.get {w : World} {g : Nat} {L : List Value} {T : TypeId} (h : Has w g L T) (i : Nat) : w.cell? ⟨g, i, none⟩ = L[i]? := by
  obtain ⟨lo, hi, h, -⟩ := h
  rw [cell_of_row w g i _ T _ h]; simp
theorem Has.cell {w : World} {g : Nat} {L : List Value} {T : TypeId} (h : Has w g L T) {i : Nat} {v : Value} (hv : L[i]? = some v) : w.cell? ⟨g, i, none⟩ = some v := (h.get i).trans hv
theorem Has.free {w : World} {g : Nat} {L : List Value} {T : TypeId} (h : Has w g L T) (i : Nat) (hi : i < L.length) : w.frozen? ⟨g, i, none⟩ = false := by
  obtain ⟨lo, hi', h, k⟩ := h
  simp only [World.frozen?, h]
  rcases k with rfl | k
  · simp <;> omega
  · simp <;> omega
/-- a cell that may be written -/
theorem Has.ready {w : World} {g : Nat} {L : List Value} {T : TypeId} (h : Has w g L T) {i : Nat} (hi : i < L.length) : ∃ v, w.cell? ⟨g, i, none⟩ = some v ∧ w.frozen? ⟨g, i, none⟩ = false :=
  ⟨L[i], h.cell (List.getElem?_eq_getElem hi), h.free i hi⟩
theorem Has.keep {S : Nat → Prop} {w w' : World} {g : Nat} {L : List Value} {T : TypeId} (h : Has w g L T) (hf : Fr S w w') (hs : ¬ S g) : Has w' g L T := by
  have hl := h.lt
  obtain ⟨lo, hi, h, k⟩ := h
  exact ⟨lo, hi, (hf.block g hl hs).trans h, k⟩
theorem Has.set {w : World} {g : Nat} {L : List Value} {T : TypeId} (h : Has w g L T) (i : Nat) (v : Value) : Has (w.setCell ⟨g, i, none⟩ v) g (L.set i v) T := by
  have hl := h.lt
  obtain ⟨lo, hi, h, k⟩ := h
  refine ⟨lo, hi, ?_, by simpa using k⟩
  simp only [World.setCell, Array.getElem?_modify, if_true]
  simp [h]
theorem Has.other {w : World} {g g' : Nat} {L : List Value} {T : TypeId} (h : Has w g L T) (i : Nat) (s : Option Nat) (v : Value) (hn : g ≠ g') : Has (w.setCell ⟨g', i, s⟩ v) g L T := by
  obtain ⟨lo, hi, h, k⟩ := h
  exact ⟨lo, hi, (heap_setCell_other w ⟨g', i, s⟩ g v hn).trans h, k⟩
theorem Has.new (w : World) (L : Array Value) (T : TypeId) : Has (w.alloc (.cells L T)) w.heap.size L.toList T :=
  ⟨0, 0, by have := heap_alloc_new w (.cells L T); simpa using this, .inl rfl⟩
theorem Has.alloc {w : World} {g : Nat} {L : List Value} {T : TypeId} (h : Has w g L T) (o : Obj) : Has (w.alloc o) g L T := by
  have hl := h.lt
  obtain ⟨lo, hi, h, k⟩ := h
  exact ⟨lo, hi, (Below.heap_alloc w o g hl).trans h, k⟩
theorem Has.drew {w : World} {g : Nat} {L : List Value} {T : TypeId} (h : Has w g L T) : Has w.drew g L T := h
theorem Has.drewN {w : World} {g : Nat} {L : List Value} {T : TypeId} (h : Has w g L T) (n : Nat) : Has (w.drewN n) g L T := h

/-- the cells vs lie in block b from place o on -/
def At (w : World) (b o : Nat) (vs : List Value) : Prop := ∀ i v, vs[i]? = some v → w.cell? ⟨b, o + i, none⟩ = some v
/-- n cells at a read as vs (where there is none: whatever a) -/
def Rd (w : World) (a : Option Addr) (n : Nat) (vs : List Value) : Prop := vs.length = n ∧ (n = 0 ∨ ∃ b o, a = some ⟨b, o, none⟩ ∧ At w b o vs)
/-- the block of a, if it has one, is not in S -/
def Off (S : Nat → Prop) (a : Option Addr) : Prop := ∀ x, a = some x → ¬ S x.block

theorem Off.nob (a : Option Addr) : Off Nob a := fun _ _ h => h
theorem At.keep {S : Nat → Prop} {w w' : World} {b o : Nat} {vs : List Value} (h : At w b o vs) (hf : Fr S w w') (hs : ¬ S b) : At w' b o vs :=
  fun i v hv => hf.cell hs (h i v hv)
theorem Rd.keep {S : Nat → Prop} {w w' : World} {a : Option Addr} {n : Nat} {vs : List Value} (h : Rd w a n vs) (hf : Fr S w w') (hs : Off S a) : Rd w' a n vs := by
  refine ⟨h.1, h.2.imp id ?_⟩
  rintro ⟨b, o, rfl, ha⟩
  exact ⟨b, o, rfl, ha.keep hf (hs _ rfl)⟩
theorem Rd.still {w w' : World} {a : Option Addr} {n : Nat} {vs : List Value} (h : Rd w a n vs) (hf : Fr Nob w w') : Rd w' a n vs := h.keep hf (Off.nob a)
theorem Rd.nil (w : World) (a : Option Addr) : Rd w a 0 [] := ⟨rfl, .inl rfl⟩
theorem Rd.len {w : World} {a : Option Addr} {n : Nat} {vs : List Value} (h : Rd w a n vs) : vs.length = n := h.1
theorem Rd.at {w : World} {a : Option Addr} {n : Nat} {vs : List Value} (h : Rd w a n vs) (hn : 0 < n) : ∃ b o, a = some ⟨b, o, none⟩ ∧ At w b o vs := h.2.resolve_left (by omega)
theorem Rd.ofHas {w : World} {g n : Nat} {L : List Value} {T : TypeId} (h : Has w g L T) (o : Nat) (hn : o + n ≤ L.length) : Rd w (some ⟨g, o, none⟩) n ((L.drop o).take n) := by
  refine ⟨by simp; omega, .inr ⟨g, o, rfl, fun i v hv => ?_⟩⟩
  rw [h.get]
  rw [List.getElem?_take] at hv
  split at hv
  · simpa using hv
  · cases hv
theorem Rd.whole {w : World} {g : Nat} {L : List Value} {T : TypeId} (h : Has w g L T) : Rd w (some ⟨g, 0, none⟩) L.length L := by
  simpa using Rd.ofHas h 0 (n := L.length) (by simp)
theorem At.cell {w : World} {b o : Nat} {vs : List Value} (h : At w b o vs) {i : Nat} (hi : i < vs.length) : w.cell? ⟨b, o + i, none⟩ = some (vs.getD i undef) :=
  h i _ (by simp [List.getD_eq_getElem?_getD, List.getElem?_eq_getElem hi])
/-- bytes, as cells -/
def bs (l : List UInt8) : List Value := l.map fun x => .int .u8 (x.toNat : Int)
theorem length_bs (l : List UInt8) : (bs l).length = l.length := by simp [bs]
theorem bs_append (l m : List UInt8) : bs (l ++ m) = bs l ++ bs m := by simp [bs]
theorem bs_drop (l : List UInt8) (n : Nat) : (bs l).drop n = bs (l.drop n) := by simp [bs]
theorem bs_get (l : List UInt8) (i : Nat) (hi : i < l.length) : (bs l)[i]? = some (.int .u8 ((l.getD i 0).toNat : Int)) := by
  simp [bs, List.getElem?_eq_getElem hi, List.getD_eq_getElem?_getD]
theorem bs_one (l : List UInt8) : ∀ v ∈ bs l, v.oneCell' = true := by intro v hv; simp [bs] at hv; obtain ⟨x, _, rfl⟩ := hv; rfl

/-- a slice of bytes reads as l -/
def RdB (w : World) (a : Option Addr) (n : Nat) (l : List UInt8) : Prop := Rd w a n (bs l)
theorem RdB.len {w : World} {a : Option Addr} {n : Nat} {l : List UInt8} (h : RdB w a n l) : l.length = n := by have := h.1; rwa [length_bs] at this
theorem RdB.at {w : World} {a : Option Addr} {n : Nat} {l : List UInt8} (h : RdB w a n l) (hn : 0 < n) : ∃ b o, a = some ⟨b, o, none⟩ ∧ ∀ i, i < n → w.cell? ⟨b, o + i, none⟩ = some (.int .u8 ((l.getD i 0).toNat : Int)) := by
  obtain ⟨b, o, ha, hc⟩ := Rd.at h hn
  exact ⟨b, o, ha, fun i hi => hc i _ (bs_get l i (by rw [h.len]; exact hi))⟩
theorem RdB.still {w w' : World} {a : Option Addr} {n : Nat} {l : List UInt8} (h : RdB w a n l) (hf : Fr Nob w w') : RdB w' a n l := Rd.still h hf
theorem RdB.keep {S : Nat → Prop} {w w' : World} {a : Option Addr} {n : Nat} {l : List UInt8} (h : RdB w a n l) (hf : Fr S w w') (hs : Off S a) : RdB w' a n l := Rd.keep h hf hs
theorem RdB.nil (w : World) (a : Option Addr) : RdB w a 0 [] := Rd.nil w a
/-- ints, as cells -/
def is (l : List Nat) : List Value := l.map fun (x : Nat) => .int .i64 (x : Int)
end Go.Mv

/- Laws of the walk for make, copy, append and conversions, over the words of Mem. Nothing here knows of a program. -/
namespace Go.Mv
open Go.RowKit
variable {P : Program}

theorem addr_add (g o i : Nat) : (⟨g, o, none⟩ : Addr).add i = ⟨g, o + i, none⟩ := by unfold Addr.add; split <;> simp_all

theorem splice_nil (L : List Value) (o : Nat) : splice L o [] = L := by simp [splice]
theorem splice_cons (L : List Value) (o : Nat) (v : Value) (vs : List Value) (h : o < L.length) : splice (L.set o v) (o + 1) vs = splice L o (v :: vs) := by
  unfold splice
  have e1 : (L.set o v).take (o + 1) = L.take o ++ [v] := by
    rw [List.take_set, List.take_succ_eq_append_getElem h, List.set_append_right _ _ (by simp; omega), List.length_take, Nat.min_eq_left (Nat.le_of_lt h), Nat.sub_self]
    rfl
  have e2 : (L.set o v).drop (o + 1 + vs.length) = L.drop (o + 1 + vs.length) := by rw [List.drop_set, if_pos (by omega)]
  rw [e1, e2]
  simp [Nat.add_comm, Nat.add_left_comm]

theorem run_store_has {w : World} {g : Nat} {L : List Value} {T : TypeId} (h : Has w g L T) (i : Nat) (hi : i < L.length) (v : Value) (hv : v.oneCell' = true) :
    (store ⟨g, i, none⟩ v).run P w = .ok () (w.setCell ⟨g, i, none⟩ v) := by
  rw [run_store P w _ v _ hv, h.cell (List.getElem?_eq_getElem hi)]
  simp [h.free i hi]

theorem run_storeCells_has (g o : Nat) (T : TypeId) : ∀ (vs : List Value) (i : Nat) (L : List Value) (w : World), Has w g L T → o + i + vs.length ≤ L.length → (∀ v ∈ vs, v.oneCell' = true) →
    ∃ w', (storeCells ⟨g, o, none⟩ vs i).run P w = .ok () w' ∧ Has w' g (splice L (o + i) vs) T ∧ Fr (One g) w w' ∧ w'.heap.size = w.heap.size
  | [], i, L, w, h, _, _ => ⟨w, rfl, by rw [splice_nil]; exact h, Fr.refl _ _, rfl⟩
  | v :: vs, i, L, w, h, hl, h1 => by
    have hi : o + i < L.length := by simp at hl; omega
    obtain ⟨w', hr, hh, hf, hz⟩ := run_storeCells_has g o T vs (i + 1) (L.set (o + i) v) (w.setCell ⟨g, o + i, none⟩ v) (h.set _ _) (by simp at hl ⊢; omega) (fun x hx => h1 x (by simp [hx]))
    refine ⟨w', ?_, ?_, ?_, ?_⟩
    · simp only [storeCells, Sem.run_bind, addr_add, run_store_has h (o + i) hi v (h1 v (by simp)), Result.andThen_ok, hr]
    · rw [← splice_cons L (o + i) v vs hi]; exact hh
    · exact ((Fr.refl (One g) w).setCell g (o + i) none v (fun _ => rfl)).trans hf (fun _ _ t => t)
    · rw [hz]; simp [World.setCell]

theorem At.add {w : World} {b o : Nat} {vs : List Value} (h : At w b o vs) : ∀ j u, vs[j]? = some u → w.cell? ((⟨b, o, none⟩ : Addr).add j) = some u := fun j u hu => by
  rw [addr_add]; exact h j u hu

/-- the first cells of a slice that reads as vs -/
theorem run_firstCells_rd {w : World} {a : Option Addr} {vs : List Value} (size n m c : Nat) (h : At w (a.getD ⟨0, 0, none⟩).block (a.getD ⟨0, 0, none⟩).off (vs.take (n * size)) ∨ n * size = 0) (ha : 0 < n * size → ∃ b o, a = some ⟨b, o, none⟩) (hl : n * size ≤ vs.length) :
    (Builtin.firstCells size n (.slice a m c)).run P w = .ok (vs.take (n * size)).toArray w := by
  rcases Nat.eq_zero_or_pos (n * size) with h0 | h0
  · rw [h0]
    cases a with
    | none => simp [Builtin.firstCells]
    | some ad => simp [Builtin.firstCells, h0, loadCells, loadCellsFrom]
  · obtain ⟨b, o, rfl⟩ := ha h0
    have h := h.resolve_right (by omega)
    exact run_firstCells_some (P := P) w size n ⟨b, o, none⟩ m c (vs.take (n * size)) (by simp; omega) h.add

theorem run_firstCells_Rd {w : World} {a : Option Addr} {k : Nat} {vs : List Value} (h : Rd w a k vs) (size n m c : Nat) (hl : n * size ≤ k) :
    (Builtin.firstCells size n (.slice a m c)).run P w = .ok (vs.take (n * size)).toArray w := by
  refine run_firstCells_rd size n m c ?_ ?_ (by rw [h.len]; exact hl)
  · rcases Nat.eq_zero_or_pos (n * size) with h0 | h0
    · exact .inr h0
    · obtain ⟨b, o, rfl, hc⟩ := h.at (by omega)
      refine .inl fun i v hv => hc i v ?_
      rw [List.getElem?_take] at hv
      split at hv
      · exact hv
      · cases hv
  · intro h0
    obtain ⟨b, o, rfl, _⟩ := h.at (by omega)
    exact ⟨b, o, rfl⟩

/-- a slice that the call owns: nil, or n elements (sz cells each) from place o on in a block from base on, which is known whole as far as the capacity goes -/
def Own (w : World) (base : Nat) (T : TypeId) (sz : Nat) (v : Value) (n : Nat) (L : List Value) : Prop :=
  L.length = n * sz ∧ ((v = .slice none 0 0 ∧ n = 0) ∨
    ∃ g o cap B, v = .slice (some ⟨g, o, none⟩) n cap ∧ base ≤ g ∧ Has w g B T ∧ n ≤ cap ∧ cap ≤ maxLen ∧ o + cap * sz ≤ B.length ∧ (B.drop o).take (n * sz) = L)
/-- the block of an owned slice -/
def OwnB (v : Value) : Nat → Prop := fun k => v.ownBlock = some k

theorem Own.nil (w : World) (base : Nat) (T : TypeId) (sz : Nat) : Own w base T sz (.slice none 0 0) 0 [] := ⟨by simp, .inl ⟨rfl, rfl⟩⟩
theorem Own.lt {w : World} {base : Nat} {T : TypeId} {sz : Nat} {v : Value} {n : Nat} {L : List Value} (h : Own w base T sz v n L) {k : Nat} (hk : OwnB v k) : base ≤ k ∧ k < w.heap.size := by
  rcases h.2 with ⟨rfl, _⟩ | ⟨g, o, cap, B, rfl, hb, hh, _⟩
  · cases hk
  · have : g = k := by simpa [OwnB, Value.ownBlock] using hk
    subst this
    exact ⟨hb, hh.lt⟩
theorem Own.keep {S : Nat → Prop} {w w' : World} {base : Nat} {T : TypeId} {sz : Nat} {v : Value} {n : Nat} {L : List Value} (h : Own w base T sz v n L) (hf : Fr S w w') (hs : ∀ k, OwnB v k → ¬ S k) : Own w' base T sz v n L := by
  refine ⟨h.1, h.2.imp id ?_⟩
  rintro ⟨g, o, cap, B, rfl, hb, hh, r⟩
  exact ⟨g, o, cap, B, rfl, hb, hh.keep hf (hs g rfl), r⟩
theorem Own.still {w w' : World} {base : Nat} {T : TypeId} {sz : Nat} {v : Value} {n : Nat} {L : List Value} (h : Own w base T sz v n L) (hf : Fr Nob w w') : Own w' base T sz v n L := h.keep hf (fun _ _ t => t)
theorem Own.mono {w : World} {base base' : Nat} {T : TypeId} {sz : Nat} {v : Value} {n : Nat} {L : List Value} (h : Own w base T sz v n L) (hb : base' ≤ base) : Own w base' T sz v n L := by
  refine ⟨h.1, h.2.imp id ?_⟩
  rintro ⟨g, o, cap, B, rfl, hb', r⟩
  exact ⟨g, o, cap, B, rfl, Nat.le_trans hb hb', r⟩
theorem Own.form {w : World} {base : Nat} {T : TypeId} {sz : Nat} {v : Value} {n : Nat} {L : List Value} (h : Own w base T sz v n L) : ∃ a cap, v = .slice a n cap ∧ n ≤ cap ∧ Rd w a (n * sz) L ∧ (∀ x, a = some x → base ≤ x.block) := by
  rcases h.2 with ⟨rfl, rfl⟩ | ⟨g, o, cap, B, rfl, hb, hh, hn, hm, hl, ht⟩
  · refine ⟨none, 0, rfl, Nat.le_refl _, ⟨by simpa using h.1, .inl (by simp)⟩, by simp⟩
  · have hle : n * sz ≤ cap * sz := Nat.mul_le_mul_right _ hn
    refine ⟨_, cap, rfl, hn, ?_, by simpa using hb⟩
    rw [← ht]
    exact Rd.ofHas hh o (by omega)
theorem Own.made {w : World} {g : Nat} {T : TypeId} {B : List Value} (h : Has w g B T) (base : Nat) (hb : base ≤ g) (sz n cap : Nat) (hn : n ≤ cap) (hm : cap ≤ maxLen) (hl : cap * sz ≤ B.length) :
    Own w base T sz (.slice (some ⟨g, 0, none⟩) n cap) n (B.take (n * sz)) := by
  have hle : n * sz ≤ cap * sz := Nat.mul_le_mul_right _ hn
  exact ⟨by simp; omega, .inr ⟨g, 0, cap, B, rfl, hb, h, hn, hm, by omega, by simp⟩⟩
/-- behind a step that wrote to an owned block alone -/
theorem Own.fr {S : Nat → Prop} {w0 w w' : World} {base : Nat} {T : TypeId} {sz : Nat} {v : Value} {n : Nat} {L : List Value} (h : Own w base T sz v n L) (hf : Fr S w0 w) (hb : w0.heap.size ≤ base) (k : Fr (OwnB v) w w') : Fr S w0 w' :=
  hf.trans k (fun _ hi t => by have := (h.lt t).1; omega)

theorem splice_length (L : List Value) (o : Nat) (vs : List Value) (h : o + vs.length ≤ L.length) : (splice L o vs).length = L.length := length_splice L o vs h
theorem splice_take (L : List Value) (o k : Nat) (vs : List Value) (h : o + k + vs.length ≤ L.length) : ((splice L (o + k) vs).drop o).take (k + vs.length) = (L.drop o).take k ++ vs := by
  unfold splice
  have h1 : (L.take (o + k)).drop o = (L.drop o).take k := by rw [List.drop_take]; congr 1; omega
  rw [List.drop_append_of_le_length (by simp; omega), h1]
  rw [← List.append_assoc]
  exact List.take_left' (by simp; omega)

theorem run_append_room2 {w : World} (t ty e : TypeId) (i : TypeInfo) (ht : P.underlying t = some (.slice e)) (hi : P.info? e = some i)
    (g o sLen sCap : Nat) (B : List Value) (T : TypeId) (hg : Has w g B T) (a : Option Addr) (m c : Nat) (news : List Value) (hnews : Rd w a (m * i.size) news) (h1 : ∀ u ∈ news, u.oneCell' = true)
    (hroom : sLen + m ≤ sCap) (hfit : o + sLen * i.size + news.length ≤ B.length) :
    ∃ w', (Builtin.append_ #[t, t] ty #[.slice (some ⟨g, o, none⟩) sLen sCap, .slice a m c]).run P w = .ok (.slice (some ⟨g, o, none⟩) (sLen + m) sCap) w' ∧
      Has w' g (splice B (o + sLen * i.size) news) T ∧ Fr (One g) w w' ∧ w'.heap.size = w.heap.size := by
  have hf := run_firstCells_Rd (P := P) hnews i.size m m c (Nat.le_refl _)
  rw [List.take_of_length_le (by rw [hnews.len]; exact Nat.le_refl _)] at hf
  obtain ⟨w', hst, hh, hfr, hz⟩ := run_storeCells_has (P := P) g (o + sLen * i.size) T news 0 B w hg (by omega) h1
  simp only [Nat.add_zero] at hh
  refine ⟨w', ?_, hh, hfr, hz⟩
  simp [Builtin.append_, run_underlying ht, sizeOf, typeInfo, hi, Builtin.lenOf, hroom, hf, addr_add, hst]

theorem run_append_zero {w : World} (t ty e : TypeId) (i : TypeInfo) (ht : P.underlying t = some (.slice e)) (hi : P.info? e = some i) (s : Option Addr) (sLen sCap : Nat) (hl : sLen ≤ sCap) (a : Option Addr) (c : Nat) :
    (Builtin.append_ #[t, t] ty #[.slice s sLen sCap, .slice a 0 c]).run P w = .ok (.slice s sLen sCap) w := by
  have hf : (Builtin.firstCells i.size 0 (.slice a 0 c)).run P w = .ok #[] w := by
    cases a <;> simp [Builtin.firstCells, loadCells, loadCellsFrom]
  cases s <;> simp [Builtin.append_, run_underlying ht, sizeOf, typeInfo, hi, Builtin.lenOf, hl, hf, storeCells]

/-- the bytes of a string, as cells -/
theorem bs_data (s : ByteArray) : bs s.data.toList = (s.data.map fun b => Value.int .u8 b.toNat).toList := by simp [bs]
theorem bs_len (s : ByteArray) : (bs s.data.toList).length = s.size := by simp [bs]

section
variable {w : World} {ops : Array Oper} {rest : List Oper} {o : Oper} {a : Act} {Q : Exit → Act → World → Prop}

/-- bytes as a string -/
def mkS (l : List UInt8) : ByteArray := ⟨l.toArray⟩
theorem mkS_data (s : ByteArray) : mkS s.data.toList = s := by simp [mkS]
theorem mkS_size (l : List UInt8) : (mkS l).size = l.length := by simp [mkS, ByteArray.size]
theorem mkS_toList (l : List UInt8) : (mkS l).data.toList = l := by simp [mkS]
theorem run_string {sa : Option Addr} {m : Nat} {l : List UInt8} (hrd : RdB w sa m l) (c : Nat) {src e dst : TypeId} (hs : P.underlying src = some (.slice e)) (he : P.underlying e = some (.int .u8)) (hd : P.underlying dst = some .string) :
    (convert src dst (.slice sa m c)).run P w = .ok (.string (mkS l)) w := by
  have hl := hrd.len
  rcases Nat.eq_zero_or_pos m with h0 | h0
  · subst h0
    obtain rfl : l = [] := List.eq_nil_of_length_eq_zero hl
    cases sa with
    | none => exact run_convert_bytes_nil w src e hs he 0 c dst hd
    | some ad =>
      rw [run_convert_bytes_string w src dst e _ 0 c hs he hd]
      simp [Conv.bytesToString, mkS, loadCells, loadCellsFrom]
      rfl
  · obtain ⟨b, o, rfl, hc⟩ := hrd.at h0
    have := run_convert_bytes_arg (P := P) w src e hs he b o m c (l.map fun x => (x.toNat : Int)) (by simp [hl]) (fun i hi => by
      rw [hc i hi]; simp [List.getD_eq_getElem?_getD, List.getElem?_eq_getElem (show i < l.length by omega)]) dst hd
    rw [this]
    have hid : (l.map ((fun n : Int => UInt8.ofNat n.toNat) ∘ fun x : UInt8 => (x.toNat : Int))) = l := by
      rw [List.map_congr_left (g := id)]
      · simp
      · intro x _; simp
    simp only [strOfNums, List.map_map, hid, mkS]

end

/-- the walk stands still here -/
def Stop (p : Prop) : Prop := p
theorem wl_stop {w : World} {ops : Array Oper} {rest : List Oper} {o : Oper} {a : Act} {Q : Exit → Act → World → Prop} (h : Stop (wpList P ops Q (o :: rest) a w)) : wpList P ops Q (o :: rest) a w := h

theorem toList_data (s : ByteArray) : s.toList = s.data.toList := by
  have key : ∀ (n i : Nat) (r : List UInt8), s.size - i = n → ByteArray.toList.loop s i r = r.reverse ++ s.data.toList.drop i := by
    intro n
    induction n with
    | zero =>
      intro i r h
      rw [ByteArray.toList.loop, if_neg (by omega), List.drop_eq_nil_of_le (by simp; omega), List.append_nil]
    | succ n ih =>
      intro i r h
      have hi : i < s.size := by omega
      rw [ByteArray.toList.loop, if_pos hi, ih (i + 1) _ (by omega)]
      have hl : i < s.data.toList.length := by simpa using hi
      rw [List.drop_eq_getElem_cons hl]
      have e : s.get! i = s.data.toList[i] := by
        have hd : i < s.data.size := hi
        show s.data[i]! = _
        rw [getElem!_pos s.data i hd]; simp
      rw [e]; simp
  have := key s.size 0 [] (by omega)
  simpa [ByteArray.toList] using this
theorem mkS_list (l : List UInt8) : (mkS l).toList = l := by rw [toList_data, mkS_toList]
end Go.Mv

/- Plain lemmas on lists: filling a list from the left. -/
namespace Mvp

/-- the first k of F, the rest of I -/
def fill {α : Type} (F I : List α) (k : Nat) : List α := F.take k ++ I.drop k
/-- Go's shifts of a 64-bit word, at every count -/
def shl (x : UInt64) (k : Nat) : UInt64 := UInt64.ofNat (x.toNat * 2 ^ k)
def shr (x : UInt64) (k : Nat) : UInt64 := UInt64.ofNat (x.toNat / 2 ^ k)
/-- the operators under names of their own -/
def wx (x y : UInt64) : UInt64 := x ^^^ y
def wo (x y : UInt64) : UInt64 := x ||| y
def wa (x y : UInt64) : UInt64 := x &&& y
def wn (x : UInt64) : UInt64 := ~~~x
def wid (x : UInt8) : UInt64 := x.toUInt64
def lo8 (x : UInt64) : UInt8 := x.toUInt8
def bx (x y : UInt8) : UInt8 := x ^^^ y
def bo (x y : UInt8) : UInt8 := x ||| y
def ba (x y : UInt8) : UInt8 := x &&& y
end Mvp

/- Rules of the walk for words: what Go's operators on 64-bit words and on bytes are on UInt64 and UInt8. -/
namespace Go.Mv
open Go.RowKit Mvp

theorem u64_lt (x : UInt64) : x.toNat < 18446744073709551616 := x.toNat_lt
theorem shr_toNat (x : UInt64) (k : Nat) : (shr x k).toNat = x.toNat / 2 ^ k := by
  have := u64_lt x
  have h := Nat.div_le_self x.toNat (2 ^ k)
  simp only [shr, UInt64.toNat_ofNat']
  exact Nat.mod_eq_of_lt (Nat.lt_of_le_of_lt h this)
theorem shl_toNat (x : UInt64) (k : Nat) : (shl x k).toNat = x.toNat * 2 ^ k % 18446744073709551616 := by simp [shl]

theorem shl_run (x : UInt64) (yk : IntKind) (k : Nat) : Op.shift .shl .u64 (x.toNat : Int) yk (k : Int) = pure (.int .u64 ((shl x k).toNat : Int)) := by
  rw [shift_shl_any _ _ _ _ (by omega), shl_toNat]
  congr 2
  rw [IntKind.wrap_u64]
  simp only [Int.toNat_natCast, IntKind.bits]
  rcases Nat.lt_or_ge k 64 with h | h
  · rw [Nat.min_eq_left (by omega)]
    simp
  · rw [Nat.min_eq_right (by omega)]
    obtain ⟨j, rfl⟩ : ∃ j, k = 64 + j := ⟨k - 64, by omega⟩
    have e : x.toNat * 2 ^ (64 + j) = x.toNat * 2 ^ j * 18446744073709551616 := by
      have e64 : (2 : Nat) ^ 64 = 18446744073709551616 := by decide
      rw [Nat.pow_add, e64]; ac_rfl
    rw [e, Nat.mul_mod_left]
    have e2 : (2 : Int) ^ 64 = 18446744073709551616 := by decide
    rw [e2]
    omega
theorem shr_run (x : UInt64) (yk : IntKind) (k : Nat) : Op.shift .shr .u64 (x.toNat : Int) yk (k : Int) = pure (.int .u64 ((shr x k).toNat : Int)) := by
  rw [shift_shr_any _ _ _ _ (by omega), shr_toNat]
  congr 2
  simp only [Int.toNat_natCast, IntKind.bits]
  rcases Nat.lt_or_ge k 64 with h | h
  · rw [Nat.min_eq_left (by omega)]
    simp
  · rw [Nat.min_eq_right (by omega)]
    have hx := u64_lt x
    have e2 : (2 : Int) ^ 64 = 18446744073709551616 := by decide
    have h3 : x.toNat / 2 ^ k = 0 := Nat.div_eq_of_lt (Nat.lt_of_lt_of_le hx (by have := Nat.pow_le_pow_right (show 0 < 2 by omega) h; simpa using this))
    rw [e2, h3]
    omega
theorem shl_lit (x : UInt64) (yk : IntKind) (n : Nat) : Op.shift .shl .u64 (x.toNat : Int) yk (no_index (OfNat.ofNat n)) = pure (.int .u64 ((shl x n).toNat : Int)) := shl_run x yk n
theorem shr_lit (x : UInt64) (yk : IntKind) (n : Nat) : Op.shift .shr .u64 (x.toNat : Int) yk (no_index (OfNat.ofNat n)) = pure (.int .u64 ((shr x n).toNat : Int)) := shr_run x yk n
theorem xor_run (x y : UInt64) : bits .xor .u64 (x.toNat : Int) (y.toNat : Int) = ((wx x y).toNat : Int) := by
  have := bits_xor_u64_nat x.toNat y.toNat (u64_lt x) (u64_lt y)
  rw [this]; simp [wx]
theorem or_run (x y : UInt64) : bits .or .u64 (x.toNat : Int) (y.toNat : Int) = ((wo x y).toNat : Int) := by
  have := bits_or_u64_nat x.toNat y.toNat (u64_lt x) (u64_lt y)
  rw [this]; simp [wo]
theorem and_run (x y : UInt64) : bits .and .u64 (x.toNat : Int) (y.toNat : Int) = ((wa x y).toNat : Int) := by
  have := bits_and_u64_nat x.toNat y.toNat (u64_lt x) (u64_lt y)
  rw [this]; simp [wa]
theorem not_run (x : UInt64) : bits .xor .u64 18446744073709551615 (x.toNat : Int) = ((wn x).toNat : Int) := by
  have e : (18446744073709551615 : Int) = (((18446744073709551615 : UInt64).toNat : Nat) : Int) := by decide
  have e1 : (18446744073709551615 : UInt64) = -1 := by decide
  rw [e, xor_run, e1, wx, UInt64.neg_one_xor, wn]
theorem not_run2 (x : UInt64) : bits .xor .u64 (if IntKind.u64.signed = true then -1 else IntKind.u64.max) (x.toNat : Int) = ((wn x).toNat : Int) := not_run x
theorem and63_run (k : Nat) : bits .and .u64 (k : Int) 63 = ((k % 64 : Nat) : Int) := by
  have h1 : BitVec.ofInt 64 (k : Int) = BitVec.ofNat 64 k := by simp
  have h2 : (BitVec.ofNat 64 k &&& BitVec.ofInt 64 63).toNat = k % 64 := by
    have e : (BitVec.ofInt 64 63).toNat = 2 ^ 6 - 1 := by decide
    rw [BitVec.toNat_and, e, Nat.and_two_pow_sub_one_eq_mod, BitVec.toNat_ofNat]
    omega
  show IntKind.u64.wrap (((BitVec.ofInt 64 (k : Int) &&& BitVec.ofInt 64 63).toNat : Nat) : Int) = _
  rw [h1, h2, IntKind.wrap_u64]
  omega
theorem widen_run (x : UInt8) : IntKind.u64.wrap (x.toNat : Int) = ((wid x).toNat : Int) := by
  have := x.toNat_lt
  rw [IntKind.wrap_u64]; simp [wid]; omega
theorem narrow_run (x : UInt64) : IntKind.u8.wrap (x.toNat : Int) = ((lo8 x).toNat : Int) := by
  rw [IntKind.wrap_u8']; simp [lo8]
theorem xor8_run (x y : UInt8) : bits .xor .u8 (x.toNat : Int) (y.toNat : Int) = ((bx x y).toNat : Int) := by
  rw [u8_xor_nat _ _ x.toNat_lt y.toNat_lt]; simp [bx]
theorem and8_run (x y : UInt8) : bits .and .u8 (x.toNat : Int) (y.toNat : Int) = ((ba x y).toNat : Int) := by
  rw [u8_and_nat _ _ x.toNat_lt y.toNat_lt]; simp [ba]
theorem or8_run (x y : UInt8) : bits .or .u8 (x.toNat : Int) (y.toNat : Int) = ((bo x y).toNat : Int) := by
  rw [u8_or_nat _ _ x.toNat_lt y.toNat_lt]; simp [bo]
theorem wid_toNat (y : UInt8) : (wid y).toNat = y.toNat := by simp [wid]
theorem or_mix (x : UInt64) (y : UInt8) : bits .or .u64 (x.toNat : Int) (y.toNat : Int) = ((wo x (wid y)).toNat : Int) := by rw [← or_run, wid_toNat]
theorem xor_mix (x : UInt64) (y : UInt8) : bits .xor .u64 (x.toNat : Int) (y.toNat : Int) = ((wx x (wid y)).toNat : Int) := by rw [← xor_run, wid_toNat]
theorem shl_mix (x : UInt8) (yk : IntKind) (k : Nat) : Op.shift .shl .u64 (x.toNat : Int) yk (k : Int) = pure (.int .u64 ((shl (wid x) k).toNat : Int)) := by rw [← shl_run, wid_toNat]
theorem shl_wrap (x : UInt64) (k : Nat) : IntKind.u64.wrap ((x.toNat : Int) * 2 ^ k) = ((shl x k).toNat : Int) := by
  rw [IntKind.wrap_u64, shl_toNat]; simp
theorem shr_div (x : UInt64) (k : Nat) : (x.toNat : Int) / 2 ^ k = ((shr x k).toNat : Int) := by
  rw [shr_toNat]; simp
attribute [go_sem high] shl_wrap shr_div or_mix xor_mix shl_mix shl_lit shr_lit shl_run shr_run xor_run or_run and_run not_run not_run2 and63_run widen_run narrow_run xor8_run and8_run or8_run

section
variable {P : Program} {w : World} {ops : Array Oper} {rest : List Oper} {o : Oper} {a : Act} {Q : Exit → Act → World → Prop}
end

end Go.Mv

/- Whole arrays in memory: load, store, result, over the words of Mem. -/
namespace Go.Mv
open Go.RowKit
variable {P : Program}

theorem Has.setCells {g : Nat} {T : TypeId} : ∀ (cs : List Value) (o : Nat) (L : List Value) (w : World), Has w g L T → o + cs.length ≤ L.length → Has (w.setCells g o cs) g (splice L o cs) T ∧ Fr (One g) w (w.setCells g o cs) ∧ (w.setCells g o cs).heap.size = w.heap.size
  | [], o, L, w, h, _ => ⟨by rw [splice_nil]; exact h, Fr.refl _ _, rfl⟩
  | v :: cs, o, L, w, h, hl => by
    simp only [List.length_cons] at hl
    obtain ⟨h1, h2, h3⟩ := Has.setCells cs (o + 1) (L.set o v) (w.setCell ⟨g, o, none⟩ v) (h.set o v) (by simp; omega)
    rw [splice_cons L o v cs (by omega)] at h1
    refine ⟨h1, ((Fr.refl (One g) w).setCell g o none v (fun _ => rfl)).trans h2 (fun _ _ t => t), ?_⟩
    show ((w.setCell ⟨g, o, none⟩ v).setCells g (o + 1) cs).heap.size = _
    rw [h3]; simp [World.setCell]

theorem Has.range {w : World} {g : Nat} {L : List Value} {T : TypeId} (h : Has w g L T) (o : Nat) (cs : List Value) (hcs : (L.drop o).take cs.length = cs) : w.rangeAt g o cs := by
  intro j v hv
  rw [h.get]
  have : j < cs.length := by
    rcases Nat.lt_or_ge j cs.length with k | k
    · exact k
    · simp [List.getElem?_eq_none k] at hv
  rw [← hcs, List.getElem?_take, if_pos this, List.getElem?_drop] at hv
  exact hv
theorem Has.there {w : World} {g : Nat} {L : List Value} {T : TypeId} (h : Has w g L T) (o n : Nat) (hn : o + n ≤ L.length) : w.there g o n := by
  intro j hj
  obtain ⟨v, h1, h2⟩ := h.ready (i := o + j) (by omega)
  exact ⟨by rw [h1]; rfl, h2⟩

section
variable {w : World} {ops : Array Oper} {rest : List Oper} {o : Oper} {a : Act} {Q : Exit → Act → World → Prop}
/-- a whole array is stored -/
theorem wl_storeA {ty : TypeId} {x y : Operand} (hgd : o.guard = none) (ho : o.op = .store ty x y) {g p : Nat} (hx : a.eval x = .pointer (some ⟨g, p, none⟩)) {cs : List Value} (hy : a.eval y = .agg cs.toArray)
    {L : List Value} {T : TypeId} (hg : Has w g L T) (hn : p + cs.length ≤ L.length) (hi : (P.info? ty).map (·.size) = some cs.length) (h1 : ∀ v ∈ cs, v.oneCell' = true)
    (h : ∀ w', Has w' g (splice L p cs) T → Fr (One g) w w' → w'.heap.size = w.heap.size → wpList P ops Q rest (a.put o.dst undef) w') : wpList P ops Q (o :: rest) a w := by
  obtain ⟨k1, k2, k3⟩ := Has.setCells cs p L w hg hn
  exact wpList_store_mid hgd ty x y ho g p cs.toArray hx hy (by simpa using hg.there p cs.length hn) (by simpa using hi) (all_oneCell_toArray h1) (by simpa using h _ k1 k2 k3)
end

theorem splice_whole (L cs : List Value) (h : cs.length = L.length) : splice L 0 cs = cs := by
  simp [splice, h]

section
variable {w : World} {ops : Array Oper} {rest : List Oper} {o : Oper} {a : Act} {Q : Exit → Act → World → Prop}
/-- a new variable -/
theorem wl_alloc {e : TypeId} (hgd : o.guard = none) (ho : o.op = .alloc e) {z : Value} (hi : (P.info? e).map (·.zero) = some (some z)) (L : List Value) (hL : z.cells.toList = L)
    (h : ∀ w', Has w' w.heap.size L e → Fr Nob w w' → w'.heap.size = w.heap.size + 1 → wpList P ops Q rest (a.put o.dst (.pointer (some ⟨w.heap.size, 0, none⟩))) w') : wpList P ops Q (o :: rest) a w := by
  refine wpList_plain hgd fun K hK => ?_
  obtain ⟨i, hi1, hz⟩ : ∃ i, P.info? e = some i ∧ i.zero = some z := by simpa using hi
  have hr : (Instr.alloc e true (.tuple #[])).run P w = .ok (.pointer (some ⟨w.heap.size, 0, none⟩)) (w.alloc (.cells z.cells e)) := by
    simp [Instr.alloc, zeroValue, typeInfo, hi1, hz, newVar, newRow]
  unfold Oper.wp execOp
  simp only [ho, Sem.run_bind, Sem.run_pure, Result.andThen_ok, hr]
  refine hK _ _ (h _ ?_ ((Fr.refl _ w).alloc _) (by simp))
  have := Has.new w z.cells e
  rwa [hL] at this
end

section
variable {w : World} {ops : Array Oper} {rest : List Oper} {o : Oper} {a : Act} {Q : Exit → Act → World → Prop}
theorem run_sliceBound (k : IntKind) (n y : Nat) (code : BoundsCode) (h : n ≤ y) : (Instr.sliceBound (.int k (n : Int)) y code).run P w = .ok n w := by
  have : ((n : Int) ≤ (y : Int)) := by omega
  simp [Instr.sliceBound, asIntOf, this]

/-- where a cut of a slice lies -/
def cutAt (p : Option Addr) (l m : Nat) : Option Addr := if m = l then p else p.map (·.add l)
end

theorem Rd.lt {w : World} {b o n : Nat} {vs : List Value} (h : Rd w (some ⟨b, o, none⟩) n vs) (hn : 0 < n) : b < w.heap.size := by
  obtain ⟨b', o', he, hc⟩ := h.at hn
  simp only [Option.some.injEq, Addr.mk.injEq] at he
  obtain ⟨rfl, rfl, -⟩ := he
  have := hc.cell (i := 0) (by rw [h.len]; exact hn)
  exact block_lt_of_cell this
end Go.Mv

/- Literals of structs and of slices, boxes. -/
namespace Go.Mv
open Go.RowKit
variable {P : Program}

theorem wl_build {w : World} {ops : Array Oper} {rest : List Oper} {o : Oper} {a : Act} {Q : Exit → Act → World → Prop} {t : TypeId} {parts : Array (Nat × Operand)} (hgd : o.guard = none) (ho : o.op = .build t parts) (cells : Array Value)
    (hb : P.built t (parts.map fun (i, x) => (i, a.eval x)).toList = some cells) (h : wpList P ops Q rest (a.put o.dst (.agg cells)) w) : wpList P ops Q (o :: rest) a w := by
  refine wpList_plain hgd fun K hK => ?_
  have hr := run_build (P := P) w t (parts.map fun (i, x) => (i, a.eval x)) cells hb
  unfold Oper.wp execOp
  simp only [ho, Sem.run_bind, Sem.run_pure, Result.andThen_ok, hr]
  exact hK _ _ h
theorem wl_build0 {w : World} {ops : Array Oper} {rest : List Oper} {o : Oper} {a : Act} {Q : Exit → Act → World → Prop} {t : TypeId} (hgd : o.guard = none) (ho : o.op = .build t #[]) (cells : Array Value)
    (hb : P.built t [] = some cells) (h : wpList P ops Q rest (a.put o.dst (.agg cells)) w) : wpList P ops Q (o :: rest) a w :=
  wl_build hgd ho cells (by simpa using hb) h
/-- a slice's block is there already -/
def Old (w : World) (a : Option Addr) : Prop := ∀ x, a = some x → x.block < w.heap.size
theorem Old.off {w : World} {a : Option Addr} (h : Old w a) {g : Nat} (hg : w.heap.size ≤ g) : Off (One g) a := fun x hx (e : x.block = g) => by have := h x hx; omega
theorem Old.none (w : World) : Old w .none := fun _ h => by cases h
theorem Old.has {w : World} {g : Nat} {L : List Value} {T : TypeId} (h : Has w g L T) (o : Nat) : Old w (some ⟨g, o, .none⟩) := fun x hx => by cases hx; exact h.lt
theorem wl_box {w : World} {ops : Array Oper} {rest : List Oper} {o : Oper} {a : Act} {Q : Exit → Act → World → Prop} {e : TypeId} {x : Operand} (hgd : o.guard = none) (ho : o.op = .box e x) {v : Value} (hx : a.eval x = v) (L : List Value) (hL : v.cells.toList = L)
    (h : ∀ w', Has w' w.heap.size L e → Fr Nob w w' → w'.heap.size = w.heap.size + 1 → wpList P ops Q rest (a.put o.dst (.pointer (some ⟨w.heap.size, 0, none⟩))) w') : wpList P ops Q (o :: rest) a w := by
  refine wpList_plain hgd fun K hK => ?_
  have hr : (Instr.box e v).run P w = .ok (.pointer (some ⟨w.heap.size, 0, none⟩)) (w.alloc (.cells v.cells e)) := by
    simp [Instr.box, newVar, newRow]
  unfold Oper.wp execOp
  simp only [ho, hx, Sem.run_bind, Sem.run_pure, Result.andThen_ok, hr]
  refine hK _ _ (h _ ?_ ((Fr.refl _ w).alloc _) (by simp))
  have := Has.new w v.cells e
  rwa [hL] at this
/-- an owned slice's cells: read and written -/
theorem Own.cells {w : World} {base : Nat} {T : TypeId} {v : Value} {n : Nat} {L : List Value} (h : Own w base T 1 v n L) (hn : 0 < n) :
    ∃ g o cap, v = .slice (some ⟨g, o, none⟩) n cap ∧ base ≤ g ∧ g < w.heap.size ∧ n ≤ cap ∧ cap ≤ maxLen ∧ (∀ i x, L[i]? = some x → w.cell? ⟨g, o + i, none⟩ = some x) ∧ (∀ i, i < n → w.frozen? ⟨g, o + i, none⟩ = false) ∧
      (∀ i x, i < n → Own (w.setCell ⟨g, o + i, none⟩ x) base T 1 v n (L.set i x)) := by
  obtain ⟨hl, h | ⟨g, o, cap, B, rfl, hb, hg, h1, h2, h3, h4⟩⟩ := h
  · obtain ⟨_, h0⟩ := h; omega
  · rw [Nat.mul_one] at h3 h4 hl
    refine ⟨g, o, cap, rfl, hb, hg.lt, h1, h2, ?_, ?_, ?_⟩
    · intro i x hx
      rw [← h4, List.getElem?_take] at hx
      split at hx
      · rw [List.getElem?_drop] at hx; exact hg.cell hx
      · cases hx
    · intro i hi; exact hg.free _ (by omega)
    · intro i x hi
      refine ⟨by rw [List.length_set, hl, Nat.mul_one], .inr ⟨g, o, cap, B.set (o + i) x, rfl, hb, hg.set (o + i) x, h1, h2, by rw [List.length_set]; omega, ?_⟩⟩
      rw [Nat.mul_one, ← h4]
      apply List.ext_getElem?
      intro j
      simp only [List.getElem?_take, List.getElem?_drop, List.getElem?_set]
      by_cases hj : j < n
      · rw [if_pos hj]
        by_cases e : i = j
        · subst e
          rw [if_pos rfl, if_pos rfl, if_pos (by omega), if_pos (by rw [List.length_take, List.length_drop]; omega)]
        · rw [if_neg (by omega), if_neg e, if_pos hj]
      · rw [if_neg hj]
        by_cases e : i = j
        · omega
        · rw [if_neg e, if_neg hj]
end Go.Mv

/- One-cell literals of any kind; owned slices and other blocks. -/
namespace Go.Mv
open Go.RowKit
variable {P : Program}
/-- a block of another type is not the slice's own -/
theorem Own.ne {w : World} {base sz n g : Nat} {T T' : TypeId} {v : Value} {L L' : List Value} (h : Own w base T sz v n L) (hg : Has w g L' T') (hT : T ≠ T') : ¬ OwnB v g := by
  intro hv
  obtain ⟨_, ⟨rfl, _⟩ | ⟨g', o, cap, B, rfl, _, hg', _⟩⟩ := h
  · cases hv
  · have : g' = g := by simpa [OwnB, Value.ownBlock] using hv
    subst this
    obtain ⟨_, _, h1, _⟩ := hg
    obtain ⟨_, _, h2, _⟩ := hg'
    rw [h1] at h2
    simp at h2
    exact hT h2.2.1.symm
end Go.Mv

/- What a call knows of the blocks that are its own: one fact for all of them. -/
namespace Go.Mv
open Go.RowKit
variable {P : Program}

/-- the blocks of bl hold what is told; each is new since w0, or may be written (S); no other block that was there at w0 has turned, but those of S -/
structure St (S : Nat → Prop) (w0 w : World) (bl : List (Nat × List Value × TypeId)) : Prop where
  fr : Fr S w0 w
  own : ∀ x ∈ bl, w0.heap.size ≤ x.1 ∨ S x.1
  has : ∀ x ∈ bl, Has w x.1 x.2.1 x.2.2
  ne : bl.Pairwise fun x y => x.1 ≠ y.1

theorem St.start (S : Nat → Prop) (w : World) : St S w w [] := ⟨Fr.refl _ _, by simp, by simp, List.Pairwise.nil⟩
theorem St.at {S : Nat → Prop} {w0 w : World} {bl : List (Nat × List Value × TypeId)} (h : St S w0 w bl) (i : Nat) {g : Nat} {L : List Value} {T : TypeId} (hi : bl[i]? = some (g, L, T)) : Has w g L T :=
  h.has _ (List.mem_of_getElem? hi)
theorem St.neAt {S : Nat → Prop} {w0 w : World} {bl : List (Nat × List Value × TypeId)} (h : St S w0 w bl) {i j : Nat} {x y : Nat × List Value × TypeId} (hi : bl[i]? = some x) (hj : bl[j]? = some y) (hij : i ≠ j) : x.1 ≠ y.1 := by
  obtain ⟨hi1, rfl⟩ := List.getElem?_eq_some_iff.1 hi
  obtain ⟨hj1, rfl⟩ := List.getElem?_eq_some_iff.1 hj
  rcases Nat.lt_or_ge i j with k | k
  · exact List.pairwise_iff_getElem.1 h.ne i j hi1 hj1 k
  · exact (List.pairwise_iff_getElem.1 h.ne j i hj1 hi1 (by omega)).symm
theorem St.keep {S : Nat → Prop} {w0 w w' : World} {bl : List (Nat × List Value × TypeId)} (h : St S w0 w bl) (hf : Fr Nob w w') : St S w0 w' bl :=
  ⟨h.fr.same hf, h.own, fun x hx => (h.has x hx).keep hf id, h.ne⟩
theorem St.drew {S : Nat → Prop} {w0 w : World} {bl : List (Nat × List Value × TypeId)} (h : St S w0 w bl) : St S w0 w.drew bl := ⟨h.fr.drew, h.own, h.has, h.ne⟩
theorem St.drewN {S : Nat → Prop} {w0 w : World} {bl : List (Nat × List Value × TypeId)} (h : St S w0 w bl) (n : Nat) : St S w0 (w.drewN n) bl := ⟨h.fr.drewN n, h.own, h.has, h.ne⟩
theorem St.less {S : Nat → Prop} {w0 w : World} {bl bl' : List (Nat × List Value × TypeId)} (h : St S w0 w bl) (hs : bl'.Sublist bl) : St S w0 w bl' :=
  ⟨h.fr, fun x hx => h.own x (hs.subset hx), fun x hx => h.has x (hs.subset hx), h.ne.sublist hs⟩
theorem St.new {S : Nat → Prop} {w0 w w' : World} {bl : List (Nat × List Value × TypeId)} (h : St S w0 w bl) (hf : Fr Nob w w') {g : Nat} {L : List Value} {T : TypeId} (hg : Has w' g L T) (hn : w.heap.size ≤ g) : St S w0 w' (bl ++ [(g, L, T)]) := by
  refine ⟨h.fr.same hf, ?_, ?_, ?_⟩
  · intro x hx
    rcases List.mem_append.1 hx with hx | hx
    · exact h.own x hx
    · simp only [List.mem_singleton] at hx
      subst hx
      exact .inl (Nat.le_trans h.fr.size hn)
  · intro x hx
    rcases List.mem_append.1 hx with hx | hx
    · exact (h.has x hx).keep hf id
    · simp only [List.mem_singleton] at hx
      subst hx
      exact hg
  · rw [List.pairwise_append]
    refine ⟨h.ne, List.pairwise_singleton _ _, ?_⟩
    intro x hx y hy
    simp only [List.mem_singleton] at hy
    subst hy
    have := (h.has x hx).lt
    show x.1 ≠ g
    omega
theorem St.put {S : Nat → Prop} {w0 w w' : World} {bl : List (Nat × List Value × TypeId)} (h : St S w0 w bl) (i : Nat) {g : Nat} {L L' : List Value} {T : TypeId} (hi : bl[i]? = some (g, L, T)) (hf : Fr (One g) w w') (hg : Has w' g L' T) : St S w0 w' (bl.set i (g, L', T)) := by
  obtain ⟨hi1, hi2⟩ := List.getElem?_eq_some_iff.1 hi
  refine ⟨?_, ?_, ?_, ?_⟩
  · refine h.fr.trans hf fun j hj hjg => ?_
    have hjg' : j = g := hjg
    subst hjg'
    rcases h.own _ (List.mem_of_getElem? hi) with k | k
    · have k' : w0.heap.size ≤ j := k
      omega
    · exact k
  · intro x hx
    rcases List.mem_or_eq_of_mem_set hx with hx | rfl
    · exact h.own x hx
    · exact h.own (g, L, T) (List.mem_of_getElem? hi)
  · intro x hx
    obtain ⟨j, hj1, hj2⟩ := List.mem_iff_getElem.1 hx
    rw [List.length_set] at hj1
    rw [List.getElem_set] at hj2
    by_cases e : i = j
    · rw [if_pos e] at hj2; subst hj2; exact hg
    · rw [if_neg e] at hj2
      subst hj2
      refine (h.has _ (List.getElem_mem hj1)).keep hf fun t => ?_
      exact h.neAt hi (List.getElem?_eq_getElem hj1) e (Eq.symm t)
  · rw [List.pairwise_iff_getElem]
    intro j k hj hk hjk
    have e := List.pairwise_iff_getElem.1 h.ne j k (by simpa using hj) (by simpa using hk) hjk
    rw [List.getElem_set, List.getElem_set]
    split
    · rename_i e1; subst e1
      rw [hi2] at e
      split
      · omega
      · exact e
    · split
      · rename_i e2; subst e2; rw [hi2] at e; exact e
      · exact e
/-- one cell of a block is written -/
theorem St.set {S : Nat → Prop} {w0 w : World} {bl : List (Nat × List Value × TypeId)} (h : St S w0 w bl) (i : Nat) {g : Nat} {L : List Value} {T : TypeId} (hi : bl[i]? = some (g, L, T)) (k : Nat) (v : Value) : St S w0 (w.setCell ⟨g, k, none⟩ v) (bl.set i (g, L.set k v, T)) :=
  h.put i hi ((Fr.refl (One g) w).setCell g k none v (fun _ => rfl)) ((h.at i hi).set k v)
/-- a block that came in is taken in -/
theorem St.take {S : Nat → Prop} {w0 w : World} {bl : List (Nat × List Value × TypeId)} (h : St S w0 w bl) {g : Nat} {L : List Value} {T : TypeId} (hg : Has w g L T) (hS : S g) (hn : ∀ x ∈ bl, x.1 ≠ g) : St S w0 w (bl ++ [(g, L, T)]) := by
  refine ⟨h.fr, ?_, ?_, ?_⟩
  · intro x hx
    rcases List.mem_append.1 hx with hx | hx
    · exact h.own x hx
    · simp only [List.mem_singleton] at hx; subst hx; exact .inr hS
  · intro x hx
    rcases List.mem_append.1 hx with hx | hx
    · exact h.has x hx
    · simp only [List.mem_singleton] at hx; subst hx; exact hg
  · rw [List.pairwise_append]
    refine ⟨h.ne, List.pairwise_singleton _ _, ?_⟩
    intro x hx y hy
    simp only [List.mem_singleton] at hy
    subst hy
    exact hn x hx
theorem St.one {w : World} {g : Nat} {L : List Value} {T : TypeId} (hg : Has w g L T) : St (One g) w w [(g, L, T)] := (St.start (One g) w).take hg rfl (by simp)

section
variable {w w0 : World} {ops : Array Oper} {rest : List Oper} {o : Oper} {a : Act} {Q : Exit → Act → World → Prop} {S : Nat → Prop} {bl : List (Nat × List Value × TypeId)}
theorem wl_boxS (hst : St S w0 w bl) {e : TypeId} {x : Operand} (hgd : o.guard = none) (ho : o.op = .box e x) {v : Value} (hx : a.eval x = v) (L : List Value) (hL : v.cells.toList = L)
    (h : ∀ g w', St S w0 w' (bl ++ [(g, L, e)]) → wpList P ops Q rest (a.put o.dst (.pointer (some ⟨g, 0, none⟩))) w') : wpList P ops Q (o :: rest) a w :=
  wl_box hgd ho hx L hL fun w' hg hf _ => h _ w' (hst.new hf hg (Nat.le_refl _))
theorem wl_allocS (hst : St S w0 w bl) {e : TypeId} (hgd : o.guard = none) (ho : o.op = .alloc e) {z : Value} (hi : (P.info? e).map (·.zero) = some (some z)) (L : List Value) (hL : z.cells.toList = L)
    (h : ∀ g w', St S w0 w' (bl ++ [(g, L, e)]) → wpList P ops Q rest (a.put o.dst (.pointer (some ⟨g, 0, none⟩))) w') : wpList P ops Q (o :: rest) a w :=
  wl_alloc hgd ho hi L hL fun w' hg hf _ => h _ w' (hst.new hf hg (Nat.le_refl _))
/-- a whole struct (or array) is read -/
theorem wl_loadSt (hst : St S w0 w bl) (i : Nat) {g : Nat} {L : List Value} {T : TypeId} (hb : bl[i]? = some (g, L, T)) {ty : TypeId} {x : Operand} (hgd : o.guard = none) (ho : o.op = .load ty x) {d : TypeDesc} (hu : P.underlying ty = some d) (hd : d.isRow = true) (hx : a.eval x = .pointer (some ⟨g, 0, none⟩))
    (hi : (P.info? ty).map (·.size) = some L.length) (h : wpList P ops Q rest (a.put o.dst (.agg L.toArray)) w) : wpList P ops Q (o :: rest) a w :=
  wpList_load_mid hgd ty x ho g 0 hx L _ ((hst.at i hb).range 0 L (by rw [List.drop_zero, List.take_of_length_le (Nat.le_refl _)])) hu hd hi h
/-- a whole array is stored -/
theorem wl_storeS (hst : St S w0 w bl) (i : Nat) {g : Nat} {L : List Value} {T : TypeId} (hb : bl[i]? = some (g, L, T)) {ty : TypeId} {x y : Operand} (hgd : o.guard = none) (ho : o.op = .store ty x y) (hx : a.eval x = .pointer (some ⟨g, 0, none⟩)) {cs : List Value} (hy : a.eval y = .agg cs.toArray)
    (hn : cs.length = L.length) (hi : (P.info? ty).map (·.size) = some cs.length) (h1 : ∀ v ∈ cs, v.oneCell' = true)
    (h : ∀ w', St S w0 w' (bl.set i (g, cs, T)) → wpList P ops Q rest (a.put o.dst undef) w') : wpList P ops Q (o :: rest) a w :=
  wl_storeA hgd ho hx hy (hst.at i hb) (by omega) hi h1 fun w' hg hf _ => h w' (hst.put i hb hf (by rwa [splice_whole _ _ hn] at hg))
end
end Go.Mv

/- A region that draws its order, under a condition S on the world that holds till the last operations begin: the head (reads, calls) in an order of the prover's choice, behind it the tail (a store, as a rule) in the text's order. -/
namespace Go.Mv
open Go.RowKit
section
variable {P : Program} {ops : Array Oper} {md : Region.Mode} {Q : Exit → Act → World → Prop} {S : World → Prop}

/- the steps -/
variable {l tl : List Oper} {i : Nat} {r : List (Nat × Bool)} {a : Act} {w : World} {o : Oper}
end

end Go.Mv

/- A region that draws its order, as XTail's, where two operations of the head may come in either order (an allocation and a call). -/
namespace Go.Mv
open Go.RowKit
section
variable {P : Program} {ops : Array Oper} {md : Region.Mode} {Q : Exit → Act → World → Prop} {S : World → Prop}

/-- orders of the head: t: it only yields a value; r: it is carried out; b: one of two is carried out -/
inductive Sc where
  | nil
  | t (i : Nat) (s : Sc)
  | r (i : Nat) (s : Sc)
  | b (i j : Nat) (s u : Sc)
def Sc.len : Sc → Nat
  | .nil => 0
  | .t _ s => s.len + 1
  | .r _ s => s.len + 1
  | .b _ _ s _ => s.len + 1

/- the steps -/
variable {l tl : List Oper} {i j : Nat} {s u : Sc} {a : Act} {w : World} {o o2 : Oper}
end
section
variable {P : Program} {w w0 : World} {o : Oper} {a : Act} {K : Act → World → Prop} {Q : Exit → Act → World → Prop} {S : Nat → Prop} {bl : List (Nat × List Value × TypeId)}
theorem wp_storeS (hst : St S w0 w bl) (i : Nat) {g : Nat} {L : List Value} {T : TypeId} (hb : bl[i]? = some (g, L, T)) {ty : TypeId} {x y : Operand} (ho : o.op = .store ty x y) (hx : a.eval x = .pointer (some ⟨g, 0, none⟩)) {cs : List Value} (hy : a.eval y = .agg cs.toArray)
    (hn : cs.length = L.length) (hi : (P.info? ty).map (·.size) = some cs.length) (h1 : ∀ v ∈ cs, v.oneCell' = true)
    (h : ∀ w', St S w0 w' (bl.set i (g, cs, T)) → K (a.put o.dst undef) w') : o.wp P a w K Q := by
  obtain ⟨k1, k2, _⟩ := Has.setCells cs 0 L w (hst.at i hb) (by omega)
  rw [splice_whole _ _ hn] at k1
  exact wp_store_mid ty x y ho g 0 cs.toArray hx hy (by simpa using (hst.at i hb).there 0 cs.length (by omega)) (by simpa using hi) (all_oneCell_toArray h1) (by simpa using h _ (hst.put i hb k2 k1))
end
end Go.Mv

/- A region that draws its order, by a plan: operations that only yield values are taken ahead (w: in whatever world; t: under a condition S on the world, that holds till operation m is carried out), the others are carried out when nothing else can come (r, m), or in either order (b). -/
namespace Go.Mv
open Go.RowKit
section
variable {P : Program} {ops : Array Oper} {md : Region.Mode} {Q : Exit → Act → World → Prop} {S : World → Prop} {m : Nat}

def wpP (P : Program) (md : Region.Mode) (ops : Array Oper) (Q : Exit → Act → World → Prop) (S : World → Prop) (m : Nat) : Nat → Array Bool → Act → World → Prop
  | 0, listed, a, w => Region.ready md ops listed = [] ∧ Q .normal a w
  | f + 1, listed, a, w => (Region.ready md ops listed = [] → Q .normal a w) ∧
    ∀ i ∈ Region.ready md ops listed, wpOp P ops Q i (fun a' w' => (listed.getD m true = false → i ≠ m → S w') ∧ wpP P md ops Q S m f (listed.setIfInBounds i true) a' w') a w

theorem wpAny_of_P : ∀ (f : Nat) (listed : Array Bool) (a : Act) (w : World), wpP P md ops Q S m f listed a w → wpAny P md ops Q f listed a w
  | 0, _, _, _, h => h
  | f + 1, _, _, _, h => ⟨h.1, fun i hi => wpOp_mono (fun a' w' h' => wpAny_of_P f _ a' w' h'.2) (h.2 i hi)⟩

/-- what is listed is closed -/
structure Cl (md : Region.Mode) (ops : Array Oper) (listed : Array Bool) : Prop where
  size : listed.size = ops.size
  closed : ∀ j oj, ops[j]? = some oj → listed.getD j false = true → ∀ e ∈ oj.after, Region.binds md e = true → listed.getD e.on false = true
theorem Cl.set {i : Nat} {listed : Array Bool} (inv : Cl md ops listed) (hi : i ∈ Region.ready md ops listed) : Cl md ops (listed.setIfInBounds i true) := by
  obtain ⟨_, oi, hoi, hall⟩ := mem_ready.1 hi
  refine ⟨by simp [inv.size], fun j oj hj hl e he hb => ?_⟩
  by_cases hij : i = j
  · subst hij
    have : oj = oi := Option.some.inj (hj.symm.trans hoi)
    subst this
    exact getD_set_true (hall e he hb)
  · rw [getD_set_ne false hij] at hl
    exact getD_set_true (inv.closed j oj hj hl e he hb)
/-- m waits for i, through others -/
def ancB (md : Region.Mode) (ops : Array Oper) (m : Nat) : Nat → Nat → Bool
  | 0, _ => false
  | f + 1, i => (List.range ops.size).any fun j => Region.waitsFor md ops j i && (decide (j = m) || ancB md ops m f j)
theorem anc_waits {listed : Array Bool} (inv : Cl md ops listed) : ∀ (f i : Nat), ancB md ops m f i = true → listed.getD i true = false → m ∉ Region.ready md ops listed
  | 0, i, h, _ => by cases h
  | f + 1, i, h, hun => by
    intro hr
    obtain ⟨j, hj, hj2⟩ := List.any_eq_true.1 h
    simp only [Bool.and_eq_true, Bool.or_eq_true, decide_eq_true_eq] at hj2
    obtain ⟨oj, hoj, e, he, hb, hon⟩ := Region.waitsFor_spec hj2.1
    rcases hj2.2 with rfl | hja
    · obtain ⟨-, om, hom, hall⟩ := mem_ready.1 hr
      have : oj = om := Option.some.inj (hoj.symm.trans hom)
      subst this
      have h2 := hall e he hb
      rw [hon, getD_both hun] at h2
      cases h2
    · cases hl : listed.getD j false with
      | true =>
        have h2 := inv.closed j oj hoj hl e he hb
        rw [hon, getD_both hun] at h2
        cases h2
      | false =>
        have hjs : j < listed.size := by rw [inv.size]; exact (Array.getElem?_eq_some_iff.1 hoj).1
        exact anc_waits inv f j hja (getD_in hjs hl) hr

theorem wpP_takeW {i : Nat} {oi : Oper} {v : Value} (hi : ops[i]? = some oi) (hsel : ∀ (j : Nat) (o : Oper) cs b, ops[j]? = some o → o.op ≠ .select cs b)
    (hQ : ∀ c a w, Q (.panic c) (a.put oi.dst v) w → Q (.panic c) a w) (him : i ≠ m) (hm : m < ops.size) :
    ∀ (f : Nat) (listed : Array Bool) (a : Act) (w : World), Cl md ops listed →
      (∀ j oj, ops[j]? = some oj → j ≠ i → listed.getD j true = false → (∀ e ∈ oj.after, Region.binds md e = true → e.on ≠ i) → oi.apart ops oj = true) →
      i ∈ Region.ready md ops listed → YieldsIf P ops (fun _ => True) oi v a → (listed.getD m true = false → S w) →
      wpP P md ops Q S m f (listed.setIfInBounds i true) (a.put oi.dst v) w → wpP P md ops Q S m (f + 1) listed a w := by
  intro f
  induction f with
  | zero =>
    intro listed a w inv _ hr hy hS H
    refine ⟨fun h => (by rw [h] at hr; cases hr), fun j hj => ?_⟩
    by_cases hji : j = i
    · subst hji; exact hy.wpOp hi trivial ⟨fun h _ => hS h, H⟩
    · have := ready_mono hj hji
      rw [H.1] at this
      cases this
  | succ f ih =>
    intro listed a w inv hfree hr hy hS H
    have hun := (mem_ready.1 hr).1
    refine ⟨fun h => (by rw [h] at hr; cases hr), fun j hj => ?_⟩
    by_cases hji : j = i
    · subst hji; exact hy.wpOp hi trivial ⟨fun h _ => hS h, H⟩
    · have h1 := H.2 j (ready_mono hj hji)
      obtain ⟨hjun, oj, hoj, hall⟩ := mem_ready.1 hj
      have hnot : ∀ e ∈ oj.after, Region.binds md e = true → e.on ≠ i := fun e he hb heq => by
        have h1 := hall e he hb
        rw [heq, getD_both hun] at h1
        cases h1
      have h2 := wpOp_putIf hoj (hfree j oj hoj hji hjun hnot) (fun cs b => hsel i oi cs b hi) (fun cs b => hsel j oj cs b hoj) hQ hy h1
      have hfree' : ∀ k ok, ops[k]? = some ok → k ≠ i → (listed.setIfInBounds j true).getD k true = false →
          (∀ e ∈ ok.after, Region.binds md e = true → e.on ≠ i) → oi.apart ops ok = true := fun k ok hk hki hun hno => by
        refine hfree k ok hk hki ?_ hno
        by_cases hjk : j = k
        · subst hjk; exact hjun
        · rw [getD_set_ne true hjk] at hun; exact hun
      refine wpOp_mono (fun a' w' h3 => ?_) h2
      have hS' : listed.getD m true = false → j ≠ m → S w' := fun hml hjm => h3.2.1 (by rw [getD_set_ne true him]; exact hml) hjm
      refine ⟨hS', ih (listed.setIfInBounds j true) a' w' (inv.set hj) hfree' (ready_mono hr (Ne.symm hji)) h3.1 (fun hml => ?_) ?_⟩
      · by_cases hjm : j = m
        · subst hjm
          have : (listed.setIfInBounds j true).getD j true = true := by
            have hs : j < listed.size := by rw [inv.size]; exact hm
            simp [hs]
          rw [this] at hml; cases hml
        · exact hS' (by rwa [getD_set_ne true hjm] at hml) hjm
      · rw [Array.setIfInBounds_comm _ _ hji]
        exact h3.2.2

theorem wpP_takeS {i af : Nat} {oi : Oper} {v : Value} (hi : ops[i]? = some oi) (hsel : ∀ (j : Nat) (o : Oper) cs b, ops[j]? = some o → o.op ≠ .select cs b)
    (hQ : ∀ c a w, Q (.panic c) (a.put oi.dst v) w → Q (.panic c) a w) (him : i ≠ m) (hanc : ancB md ops m af i = true) :
    ∀ (f : Nat) (listed : Array Bool) (a : Act) (w : World), Cl md ops listed → listed.getD m true = false →
      (∀ j oj, ops[j]? = some oj → j ≠ i → listed.getD j true = false → (∀ e ∈ oj.after, Region.binds md e = true → e.on ≠ i) → oi.apart ops oj = true) →
      i ∈ Region.ready md ops listed → YieldsIf P ops S oi v a → S w →
      wpP P md ops Q S m f (listed.setIfInBounds i true) (a.put oi.dst v) w → wpP P md ops Q S m (f + 1) listed a w := by
  intro f
  induction f with
  | zero =>
    intro listed a w inv _ _ hr hy hS H
    refine ⟨fun h => (by rw [h] at hr; cases hr), fun j hj => ?_⟩
    by_cases hji : j = i
    · subst hji; exact hy.wpOp hi hS ⟨fun _ _ => hS, H⟩
    · have := ready_mono hj hji
      rw [H.1] at this
      cases this
  | succ f ih =>
    intro listed a w inv hml hfree hr hy hS H
    have hun := (mem_ready.1 hr).1
    refine ⟨fun h => (by rw [h] at hr; cases hr), fun j hj => ?_⟩
    by_cases hji : j = i
    · subst hji; exact hy.wpOp hi hS ⟨fun _ _ => hS, H⟩
    · have hjm : j ≠ m := fun e => anc_waits inv af i hanc hun (e ▸ hj)
      have h1 := H.2 j (ready_mono hj hji)
      obtain ⟨hjun, oj, hoj, hall⟩ := mem_ready.1 hj
      have hnot : ∀ e ∈ oj.after, Region.binds md e = true → e.on ≠ i := fun e he hb heq => by
        have h1 := hall e he hb
        rw [heq, getD_both hun] at h1
        cases h1
      have h2 := wpOp_putIf hoj (hfree j oj hoj hji hjun hnot) (fun cs b => hsel i oi cs b hi) (fun cs b => hsel j oj cs b hoj) hQ hy h1
      have hfree' : ∀ k ok, ops[k]? = some ok → k ≠ i → (listed.setIfInBounds j true).getD k true = false →
          (∀ e ∈ ok.after, Region.binds md e = true → e.on ≠ i) → oi.apart ops ok = true := fun k ok hk hki hun hno => by
        refine hfree k ok hk hki ?_ hno
        by_cases hjk : j = k
        · subst hjk; exact hjun
        · rw [getD_set_ne true hjk] at hun; exact hun
      refine wpOp_mono (fun a' w' h3 => ?_) h2
      have hS' : S w' := h3.2.1 (by rw [getD_set_ne true him]; exact hml) hjm
      refine ⟨fun _ _ => hS', ih (listed.setIfInBounds j true) a' w' (inv.set hj) (by rw [getD_set_ne true hjm]; exact hml) hfree' (ready_mono hr (Ne.symm hji)) h3.1 hS' ?_⟩
      rw [Array.setIfInBounds_comm _ _ hji]
      exact h3.2.2

inductive Pl where
  | nil
  | w (i : Nat) (s : Pl)
  | t (i : Nat) (s : Pl)
  | r (i : Nat) (s : Pl)
  | m (i : Nat) (s : Pl)
  | b (i j : Nat) (s u : Pl)
  | c (i j k : Nat) (s u v : Pl)
def Pl.len : Pl → Nat
  | .nil => 0
  | .w _ s => s.len + 1
  | .t _ s => s.len + 1
  | .r _ s => s.len + 1
  | .m _ s => s.len + 1
  | .b _ _ s _ => s.len + 1
  | .c _ _ _ s _ _ => s.len + 1
def wpPlan (P : Program) (ops : Array Oper) (Q : Exit → Act → World → Prop) (S : World → Prop) : Pl → Act → World → Prop
  | .nil, a, w => Q .normal a w
  | .w i s, a, w => ∃ o v, ops[i]? = some o ∧ YieldsIf P ops (fun _ => True) o v a ∧ wpPlan P ops Q S s (a.put o.dst v) w
  | .t i s, a, w => ∃ o v, ops[i]? = some o ∧ YieldsIf P ops S o v a ∧ wpPlan P ops Q S s (a.put o.dst v) w
  | .r i s, a, w => ∃ o, ops[i]? = some o ∧ o.guard = none ∧ o.wp P a w (fun a' w' => S w' ∧ wpPlan P ops Q S s a' w') Q
  | .m i s, a, w => ∃ o, ops[i]? = some o ∧ o.guard = none ∧ o.wp P a w (fun a' w' => wpPlan P ops Q S s a' w') Q
  | .b i j s u, a, w => (∃ o, ops[i]? = some o ∧ o.guard = none ∧ o.wp P a w (fun a' w' => S w' ∧ wpPlan P ops Q S s a' w') Q) ∧
      (∃ o, ops[j]? = some o ∧ o.guard = none ∧ o.wp P a w (fun a' w' => S w' ∧ wpPlan P ops Q S u a' w') Q)
  | .c i j k s u v, a, w => (∃ o, ops[i]? = some o ∧ o.guard = none ∧ o.wp P a w (fun a' w' => S w' ∧ wpPlan P ops Q S s a' w') Q) ∧
      (∃ o, ops[j]? = some o ∧ o.guard = none ∧ o.wp P a w (fun a' w' => S w' ∧ wpPlan P ops Q S u a' w') Q) ∧
      (∃ o, ops[k]? = some o ∧ o.guard = none ∧ o.wp P a w (fun a' w' => S w' ∧ wpPlan P ops Q S v a' w') Q)
def planOk (md : Region.Mode) (ops : Array Oper) (m : Nat) : Pl → Array Bool → Bool
  | .nil, listed => (Region.ready md ops listed).isEmpty
  | .w i s, listed => decide (i ≠ m) && (Region.ready md ops listed).contains i && Region.free md ops listed i && planOk md ops m s (listed.setIfInBounds i true)
  | .t i s, listed => decide (i ≠ m) && decide (listed.getD m true = false) && (Region.ready md ops listed).contains i && Region.free md ops listed i && ancB md ops m ops.size i && planOk md ops m s (listed.setIfInBounds i true)
  | .r i s, listed => decide (i ≠ m) && decide (listed.getD m true = false) && decide (Region.ready md ops listed = [i]) && planOk md ops m s (listed.setIfInBounds i true)
  | .m i s, listed => (decide (i = m) || decide (listed.getD m true = true)) && decide (Region.ready md ops listed = [i]) && planOk md ops m s (listed.setIfInBounds i true)
  | .b i j s u, listed => decide (i ≠ m) && decide (j ≠ m) && decide (listed.getD m true = false) && decide (s.len = u.len) && decide (Region.ready md ops listed = [i, j]) && planOk md ops m s (listed.setIfInBounds i true) && planOk md ops m u (listed.setIfInBounds j true)
  | .c i j k s u v, listed => decide (i ≠ m) && decide (j ≠ m) && decide (k ≠ m) && decide (listed.getD m true = false) && decide (s.len = u.len) && decide (s.len = v.len) && decide (Region.ready md ops listed = [i, j, k]) && planOk md ops m s (listed.setIfInBounds i true) && planOk md ops m u (listed.setIfInBounds j true) && planOk md ops m v (listed.setIfInBounds k true)

theorem wpOp_one {i : Nat} {o : Oper} {a : Act} {w : World} {K : Act → World → Prop} (ho : ops[i]? = some o) (hg : o.guard = none) (h : o.wp P a w K Q) : wpOp P ops Q i K a w := by
  unfold wpOp
  simp only [ho]
  rw [if_pos (by simp [Region.wanted, hg])]
  exact .inl h
theorem getD_set_self {listed : Array Bool} {i : Nat} (h : i < listed.size) : (listed.setIfInBounds i true).getD i true = true := by simp [h]

theorem wpP_of_plan (hsel : Region.noSelect ops = true) (hm : m < ops.size) (hQ : ∀ c (d : Option Tmp) v a w, Q (.panic c) (Act.put a d v) w → Q (.panic c) a w) :
    ∀ (s : Pl) (listed : Array Bool) (a : Act) (w : World), Cl md ops listed → planOk md ops m s listed = true → (listed.getD m true = false → S w) → wpPlan P ops Q S s a w → wpP P md ops Q S m s.len listed a w
  | .nil, listed, a, w, _, hB, _, h => ⟨by simpa [planOk] using hB, h⟩
  | .w i r, listed, a, w, inv, hB, hS, h => by
    obtain ⟨o, v, ho, hy, hK⟩ := h
    simp only [planOk, Bool.and_eq_true, decide_eq_true_eq] at hB
    obtain ⟨⟨⟨him, hr⟩, hf⟩, hB'⟩ := hB
    have hr' : i ∈ Region.ready md ops listed := by simpa using hr
    exact wpP_takeW ho (Region.noSelect_spec hsel) (fun c a w => hQ c o.dst v a w) him hm r.len listed a w inv (Region.free_spec ho hf) hr' hy hS
      (wpP_of_plan hsel hm hQ r _ _ w (inv.set hr') hB' (fun h => hS (by rwa [getD_set_ne true him] at h)) hK)
  | .t i r, listed, a, w, inv, hB, hS, h => by
    obtain ⟨o, v, ho, hy, hK⟩ := h
    simp only [planOk, Bool.and_eq_true, decide_eq_true_eq] at hB
    obtain ⟨⟨⟨⟨⟨him, hml⟩, hr⟩, hf⟩, han⟩, hB'⟩ := hB
    have hr' : i ∈ Region.ready md ops listed := by simpa using hr
    exact wpP_takeS ho (Region.noSelect_spec hsel) (fun c a w => hQ c o.dst v a w) him han r.len listed a w inv hml (Region.free_spec ho hf) hr' hy (hS hml)
      (wpP_of_plan hsel hm hQ r _ _ w (inv.set hr') hB' (fun _ => hS hml) hK)
  | .r i r, listed, a, w, inv, hB, hS, h => by
    obtain ⟨o, ho, hg, hK⟩ := h
    simp only [planOk, Bool.and_eq_true, decide_eq_true_eq] at hB
    obtain ⟨⟨⟨him, hml⟩, hr⟩, hB'⟩ := hB
    have hr' : i ∈ Region.ready md ops listed := by rw [hr]; simp
    refine ⟨fun h0 => (by rw [hr] at h0; cases h0), fun j hj => ?_⟩
    rw [hr] at hj
    have hj' : j = i := by simpa using hj
    subst hj'
    exact wpOp_one ho hg (Oper.wp_mono (fun a' w' h' => ⟨fun _ _ => h'.1, wpP_of_plan hsel hm hQ r _ a' w' (inv.set hr') hB' (fun _ => h'.1) h'.2⟩) hK)
  | .m i r, listed, a, w, inv, hB, hS, h => by
    obtain ⟨o, ho, hg, hK⟩ := h
    simp only [planOk, Bool.and_eq_true, Bool.or_eq_true, decide_eq_true_eq] at hB
    obtain ⟨⟨him, hr⟩, hB'⟩ := hB
    have hr' : i ∈ Region.ready md ops listed := by rw [hr]; simp
    refine ⟨fun h0 => (by rw [hr] at h0; cases h0), fun j hj => ?_⟩
    rw [hr] at hj
    have hj' : j = i := by simpa using hj
    subst hj'
    have hml : (listed.setIfInBounds j true).getD m true = true := by
      rcases him with e | e
      · subst e; exact getD_set_self (by rw [inv.size]; exact hm)
      · by_cases e2 : j = m
        · subst e2; exact getD_set_self (by rw [inv.size]; exact hm)
        · rw [getD_set_ne true e2]; exact e
    refine wpOp_one ho hg (Oper.wp_mono (fun a' w' h' => ⟨fun h1 h2 => ?_, wpP_of_plan hsel hm hQ r _ a' w' (inv.set hr') hB' (fun h1 => by rw [hml] at h1; cases h1) h'⟩) hK)
    rcases him with e | e
    · exact absurd e h2
    · rw [e] at h1; cases h1
  | .b i j r u, listed, a, w, inv, hB, hS, h => by
    obtain ⟨⟨o, ho, hg, hK⟩, ⟨o2, ho2, hg2, hK2⟩⟩ := h
    simp only [planOk, Bool.and_eq_true, decide_eq_true_eq] at hB
    obtain ⟨⟨⟨⟨⟨⟨him, hjm⟩, hml⟩, hlen⟩, hr⟩, hB1⟩, hB2⟩ := hB
    have hri : i ∈ Region.ready md ops listed := by rw [hr]; simp
    have hrj : j ∈ Region.ready md ops listed := by rw [hr]; simp
    refine ⟨fun h0 => (by rw [hr] at h0; cases h0), fun k hk => ?_⟩
    rw [hr] at hk
    have hk' : k = i ∨ k = j := by simpa using hk
    rcases hk' with e | e
    · subst e
      exact wpOp_one ho hg (Oper.wp_mono (fun a' w' h' => ⟨fun _ _ => h'.1, wpP_of_plan hsel hm hQ r _ a' w' (inv.set hri) hB1 (fun _ => h'.1) h'.2⟩) hK)
    · subst e
      rw [hlen]
      exact wpOp_one ho2 hg2 (Oper.wp_mono (fun a' w' h' => ⟨fun _ _ => h'.1, wpP_of_plan hsel hm hQ u _ a' w' (inv.set hrj) hB2 (fun _ => h'.1) h'.2⟩) hK2)
  | .c i j k r u v, listed, a, w, inv, hB, hS, h => by
    obtain ⟨⟨o, ho, hg, hK⟩, ⟨o2, ho2, hg2, hK2⟩, ⟨o3, ho3, hg3, hK3⟩⟩ := h
    simp only [planOk, Bool.and_eq_true, decide_eq_true_eq] at hB
    obtain ⟨⟨⟨⟨⟨⟨⟨⟨⟨him, hjm⟩, hkm⟩, hml⟩, hlen⟩, hlen2⟩, hr⟩, hB1⟩, hB2⟩, hB3⟩ := hB
    have hri : i ∈ Region.ready md ops listed := by rw [hr]; simp
    have hrj : j ∈ Region.ready md ops listed := by rw [hr]; simp
    have hrk : k ∈ Region.ready md ops listed := by rw [hr]; simp
    refine ⟨fun h0 => (by rw [hr] at h0; cases h0), fun q hk => ?_⟩
    rw [hr] at hk
    have hk' : q = i ∨ q = j ∨ q = k := by simpa using hk
    rcases hk' with e | e | e
    · subst e
      exact wpOp_one ho hg (Oper.wp_mono (fun a' w' h' => ⟨fun _ _ => h'.1, wpP_of_plan hsel hm hQ r _ a' w' (inv.set hri) hB1 (fun _ => h'.1) h'.2⟩) hK)
    · subst e
      show wpOp P ops Q _ (fun a' w' => _ ∧ wpP P md ops Q S m r.len _ a' w') a w
      rw [hlen]
      exact wpOp_one ho2 hg2 (Oper.wp_mono (fun a' w' h' => ⟨fun _ _ => h'.1, wpP_of_plan hsel hm hQ u _ a' w' (inv.set hrj) hB2 (fun _ => h'.1) h'.2⟩) hK2)
    · subst e
      show wpOp P ops Q _ (fun a' w' => _ ∧ wpP P md ops Q S m r.len _ a' w') a w
      rw [hlen2]
      exact wpOp_one ho3 hg3 (Oper.wp_mono (fun a' w' h' => ⟨fun _ _ => h'.1, wpP_of_plan hsel hm hQ v _ a' w' (inv.set hrk) hB3 (fun _ => h'.1) h'.2⟩) hK3)

def planAll (ops : Array Oper) (m : Nat) (s : Pl) : Bool :=
  Region.noSelect ops && decide (m < ops.size) && decide (s.len = ops.size) && planOk .any ops m s (Array.replicate ops.size false)
/-- THE BEGINNING -/
theorem wp_region_plan {id : Nat} {a : Act} {w : World} {l : List Oper} (S : World → Prop) (m : Nat) (s : Pl) (hm : P.follows .mixedOrders = true) (hB : planAll l.toArray m s = true)
    (hS : S w.drew) (hQ : ∀ c (d : Option Tmp) v a w, Q (.panic c) (Act.put a d v) w → Q (.panic c) a w)
    (h : wpPlan P l.toArray Q S s a w.drew) : (Code.region id l.toArray true).wp P Q a w := by
  simp only [planAll, Bool.and_eq_true, decide_eq_true_eq] at hB
  obtain ⟨⟨⟨hsel, hms⟩, hlen⟩, hseq⟩ := hB
  have inv0 : Cl .any l.toArray (Array.replicate l.toArray.size false) :=
    ⟨by simp, fun j oj _ hl => (by rw [getD_replicate_false] at hl; cases hl)⟩
  have H := wpP_of_plan (md := .any) hsel hms hQ s _ a w.drew inv0 hseq (fun _ => hS) h
  rw [hlen] at H
  exact wp_region_any hm (wpAny_of_P _ _ _ _ H)

/- the steps -/
variable {l : List Oper} {i j : Nat} {s u : Pl} {a : Act} {w : World} {o o2 : Oper}
theorem plan_end (h : Q .normal a w) : wpPlan P ops Q S .nil a w := h
theorem plan_w (ho : l[i]? = some o) (hg : o.guard = none) {v : Value} (hv : ∀ wx, (execOp a.eval o).run P wx = .ok (.value v) wx) (h : wpPlan P l.toArray Q S s (a.put o.dst v) w) : wpPlan P l.toArray Q S (.w i s) a w :=
  ⟨o, v, by simpa using ho, .inl ⟨by simp [Region.wanted, hg], fun wx _ => hv wx⟩, h⟩
theorem plan_t (ho : l[i]? = some o) (hg : o.guard = none) {v : Value} (hv : ∀ wx, S wx → (execOp a.eval o).run P wx = .ok (.value v) wx) (h : wpPlan P l.toArray Q S s (a.put o.dst v) w) : wpPlan P l.toArray Q S (.t i s) a w :=
  ⟨o, v, by simpa using ho, .inl ⟨by simp [Region.wanted, hg], hv⟩, h⟩
theorem plan_r (ho : l[i]? = some o) (hg : o.guard = none) (h : o.wp P a w (fun a' w' => S w' ∧ wpPlan P l.toArray Q S s a' w') Q) : wpPlan P l.toArray Q S (.r i s) a w :=
  ⟨o, by simpa using ho, hg, h⟩
theorem plan_m (ho : l[i]? = some o) (hg : o.guard = none) (h : o.wp P a w (fun a' w' => wpPlan P l.toArray Q S s a' w') Q) : wpPlan P l.toArray Q S (.m i s) a w :=
  ⟨o, by simpa using ho, hg, h⟩
end
end Go.Mv

/- Two blocks that were made in the other order. -/
namespace Go.Mv
open Go.RowKit
end Go.Mv

/- A region that draws its order, told as a chain of steps beside fresh blocks (allocs) that may be made at any time between their opening and their joint: each step is shown once. -/
namespace Go.Mv
open Go.RowKit
abbrev Blk := Nat × List Value × TypeId
/-- one place of a function turned -/
def upd (x : Nat → Value) (i : Nat) (v : Value) : Nat → Value := fun k => if k = i then v else x k
theorem upd_same (x : Nat → Value) (i : Nat) (v : Value) : upd x i v i = v := if_pos rfl
theorem upd_other (x : Nat → Value) (i k : Nat) (v : Value) (h : (k == i) = false) : upd x i v k = x k := if_neg (by simpa using h)
/-- w, t: taken ahead; c: carried out; o: from here on a block may be made; j: by here it is made -/
inductive LS where
  | w (i : Nat)
  | t (i : Nat)
  | c (i : Nat)
  | o (i : Nat)
  | j (i : Nat)
section
variable {P : Program} {ops : Array Oper} {md : Region.Mode} {Q : Exit → Act → World → Prop} {Sx : World → Prop} {m : Nat} {S : Nat → Prop} {w0 : World} {tl : Pl}
/-- what makes one block of its own, in whatever world -/
def Mk (P : Program) (e : Sem Next) (v : Nat → Value) (L : List Value) (T : TypeId) : Prop :=
  ∀ w, ∃ g w', e.run P w = .ok (.value (v g)) w' ∧ Fr Nob w w' ∧ w.heap.size ≤ g ∧ Has w' g L T
/-- an open block: the operation, its value, its cells -/
abbrev Flt := Nat × (Nat → Value) × List Value × TypeId
/-- the open blocks of B are made -/
def mark (listed : Array Bool) (B : List Nat) : Array Bool := listed.mapIdx fun k b => b || B.contains k
theorem mark_size (listed : Array Bool) (B : List Nat) : (mark listed B).size = listed.size := by simp [mark]
theorem mark_get (listed : Array Bool) (B : List Nat) (k : Nat) (hk : k < listed.size) (d : Bool) : (mark listed B).getD k d = (listed.getD k d || B.contains k) := by
  simp [mark, hk]
theorem arr_ext {a b : Array Bool} (hs : a.size = b.size) (h : ∀ k, k < a.size → a.getD k true = b.getD k true) : a = b := by
  refine Array.ext hs fun k h1 h2 => ?_
  have := h k h1
  simpa [h1, h2] using this
def dstNe (ops : Array Oper) (i : Nat) (opn : List Nat) : Bool := opn.all fun k => match ops[i]?, ops[k]? with | some a, some b => a.apart ops b | _, _ => false
theorem put_comm (a : Act) (d e : Option Tmp) (u v : Value) (h : e ≠ d ∨ e = none) : (a.put e u).put d v = (a.put d v).put e u := by
  cases d <;> cases e <;> simp only [Act.put]
  · rename_i x y
    have hn : y ≠ x := fun k => by subst k; rcases h with h | h; exact h rfl; cases h
    rw [Array.setIfInBounds_comm _ _ hn]
theorem put_twice (a : Act) (d : Option Tmp) (u v : Value) : (a.put d u).put d v = a.put d v := by
  cases d <;> simp [Act.put]
theorem put_back (a : Act) (d : Option Tmp) : ∃ u, a.put d u = a := by
  cases d with
  | none => exact ⟨undef, rfl⟩
  | some d =>
    refine ⟨a.tmps.getD d undef, ?_⟩
    simp only [Act.put]
    have : a.tmps.setIfInBounds d (a.tmps.getD d undef) = a.tmps := by
      refine Array.ext (by simp) fun k h1 h2 => ?_
      rw [Array.getElem_setIfInBounds (by simpa using h1)]
      split
      · rename_i e; subst e; simp [h2]
      · rfl
    rw [this]
theorem dst_ap {i : Nat} {opn : List Nat} {o : Oper} (h : dstNe ops i opn = true) (ho : ops[i]? = some o) {k : Nat} {ok : Oper} (hk : k ∈ opn) (hok : ops[k]? = some ok) : o.apart ops ok = true := by
  have := List.all_eq_true.1 h k hk
  simp only [ho, hok] at this
  exact this
theorem ap_dst {o ok : Oper} (h : o.apart ops ok = true) : o.dst ≠ ok.dst ∨ o.dst = none := by
  obtain ⟨-, h2, -⟩ := Oper.apart_spec h
  cases hd : o.dst with
  | none => exact .inr rfl
  | some d => exact .inl fun e => h2 d hd e.symm
theorem wp_mk {o : Oper} {e : Sem Next} {v : Nat → Value} {L : List Value} {T : TypeId} (ha : Mk P e v L T) {BL : List Blk} {a : Act} {w : World} {K : Act → World → Prop} (he : execOp a.eval o = e) (hst : St S w0 w BL)
    (h : ∀ g w', St S w0 w' (BL ++ [(g, L, T)]) → Fr Nob w w' → K (a.put o.dst (v g)) w') : o.wp P a w K Q := by
  obtain ⟨g, w', hr, hf, hle, hg⟩ := ha w
  unfold Oper.wp
  rw [he, hr]
  exact h g w' (hst.new hf hg hle) hf
structure Fls (P : Program) (ops : Array Oper) (Γ : List Flt) (A : (Nat → Value) → Act) : Prop where
  nd : (Γ.map Prod.fst).Nodup
  ok : ∀ q ∈ Γ, ∃ o e, ops[q.1]? = some o ∧ o.guard = none ∧ (∀ x, execOp (A x).eval o = e) ∧ Mk P e q.2.1 q.2.2.1 q.2.2.2
  put : ∀ k ∈ Γ.map Prod.fst, ∀ o, ops[k]? = some o → ∀ x v, (A x).put o.dst v = A (upd x k v)
  not : ∀ k, k ∉ Γ.map Prod.fst → ∀ x v, A (upd x k v) = A x
theorem Fls.step {Γ : List Flt} {A : (Nat → Value) → Act} (h : Fls P ops Γ A) (hsel : Region.noSelect ops = true) {i : Nat} {o : Oper} (ho : ops[i]? = some o) (hd : dstNe ops i (Γ.map Prod.fst) = true) (v : Value) : Fls P ops Γ (fun x => (A x).put o.dst v) := by
  refine ⟨h.nd, fun q hq => ?_, fun k hk ok hok x u => ?_, fun k hk x u => by rw [h.not k hk]⟩
  · obtain ⟨o2, e, h1, h2, h3, h4⟩ := h.ok q hq
    have hap := dst_ap hd ho (List.mem_map_of_mem hq) h1
    refine ⟨o2, e, h1, h2, fun x => ?_, h4⟩
    rw [execOp_put (ops := ops) o2 (fun cs b => Region.noSelect_spec hsel q.1 o2 cs b h1) (A x) o.dst v (Oper.apart_spec hap).1]
    exact h3 x
  · rw [put_comm _ _ _ _ _ (ap_dst (dst_ap hd ho hk hok)), h.put k hk ok hok]
theorem nd_filter {l : List Nat} (h : l.Nodup) (p : Nat → Bool) : (l.filter p).Nodup := List.Pairwise.filter p h
theorem len_filter {l : List Nat} (h : l.Nodup) {i : Nat} (hi : i ∈ l) : (l.filter (· != i)).length + 1 = l.length := by
  induction l with
  | nil => cases hi
  | cons a l ih =>
    rw [List.nodup_cons] at h
    rw [List.filter_cons]
    by_cases e : a = i
    · subst e
      rw [if_neg (by simp)]
      have : l.filter (· != a) = l := List.filter_eq_self.2 fun b hb => by
        simp only [bne_iff_ne, ne_eq]
        exact fun e => h.1 (e ▸ hb)
      rw [this]; rfl
    · rw [if_pos (by simpa using e)]
      rcases List.mem_cons.1 hi with rfl | hi
      · exact absurd rfl e
      · simp [← ih h.2 hi]
/- the steps -/
variable {l : List Oper} {i : Nat} {s : List LS} {Γ : List Flt} {BL : List Blk} {R : World → Prop} {A : (Nat → Value) → Act} {o : Oper}
theorem mk_alloc {e : TypeId} {z : Value} (hi : (P.info? e).map (·.zero) = some (some z)) {a : Act} (hop : o.op = .alloc e) (L : List Value) (hL : z.cells.toList = L) : Mk P (execOp a.eval o) (fun g => .pointer (some ⟨g, 0, none⟩)) L e := by
  intro w
  obtain ⟨i, hi1, hz⟩ : ∃ i, P.info? e = some i ∧ i.zero = some z := by simpa using hi
  have hr : (Instr.alloc e true (.tuple #[])).run P w = .ok (.pointer (some ⟨w.heap.size, 0, none⟩)) (w.alloc (.cells z.cells e)) := by
    simp [Instr.alloc, zeroValue, typeInfo, hi1, hz, newVar, newRow]
  refine ⟨w.heap.size, w.alloc (.cells z.cells e), ?_, (Fr.refl _ w).alloc _, Nat.le_refl _, ?_⟩
  · unfold execOp
    simp only [hop, Sem.run_bind, Sem.run_pure, Result.andThen_ok, hr]
  · have hg := Has.new w z.cells e
    rwa [hL] at hg
theorem wp_go {a : Act} {w : World} {K : Act → World → Prop} {f : FuncId} {xs : Array Operand} {ats : Array TypeId} (hop : o.op = .call { callee := .value (.func f), args := xs, argTypes := ats }) (hcl : ∀ us w, (callFunc f us).run P w = .ok (.enter f us) w)
    {vs : List Value} (hargs : xs.toList.map a.eval = vs) (h : Calls P f vs.toArray w fun e w' => ∃ v, e = .returned v ∧ K (a.put o.dst v) w') : o.wp P a w K Q := by
  have he : execOp a.eval o = callFunc f vs.toArray := by
    have h1 : execOp a.eval o = callFunc f (#[] ++ xs.map a.eval ++ #[]) := by
      unfold execOp
      rw [hop]
      rfl
    rw [h1]
    congr 1
    rw [← hargs]
    simp [← Array.toList_map]
  unfold Oper.wp
  rw [he, hcl]
  refine h.mono fun e w' h' => ?_
  obtain ⟨v, rfl, h2⟩ := h'
  exact h2
variable {rest : List Oper} {a : Act} {w : World}
end
end Go.Mv

/- append onto an owned slice, once more: what lay ahead of the new cells is kept, in the old block too. -/
namespace Go.Mv
open Go.RowKit
variable {P : Program}

/-- all cells of old blocks are as they were, but those of v's block behind its n elements -/
def Kept (v : Value) (n sz : Nat) (w w' : World) : Prop :=
  ∀ b i, b < w.heap.size → (∀ o cap, v = .slice (some ⟨b, o, none⟩) n cap → i < o + n * sz) → w'.cell? ⟨b, i, none⟩ = w.cell? ⟨b, i, none⟩

theorem Kept.refl (v : Value) (n sz : Nat) (w : World) : Kept v n sz w w := fun _ _ _ _ => rfl
theorem Kept.ofFr {v : Value} {n sz : Nat} {w w' : World} (h : Fr Nob w w') : Kept v n sz w w' := fun b _ hb _ => World.cell?_of_block (a := ⟨b, _, none⟩) (h.block b hb id)
theorem Kept.rd {v : Value} {n sz : Nat} {w w' : World} (h : Kept v n sz w w') {a : Option Addr} {m : Nat} {L : List Value} (hr : Rd w a m L) (ha : ∀ b o o' cap, a = some ⟨b, o, none⟩ → v = .slice (some ⟨b, o', none⟩) n cap → o + m ≤ o' + n * sz) : Rd w' a m L := by
  refine ⟨hr.1, hr.2.imp id ?_⟩
  rintro ⟨b, o, rfl, hat⟩
  refine ⟨b, o, rfl, fun i u hu => ?_⟩
  have hc := hat i u hu
  have hi : i < m := by
    rcases Nat.lt_or_ge i m with k | k
    · exact k
    · rw [List.getElem?_eq_none (by rw [hr.1]; exact k)] at hu; cases hu
  rw [h b (o + i) (block_lt_of_cell hc) (fun o' cap hv => by have := ha b o o' cap rfl hv; omega)]
  exact hc

theorem run_append3 {w : World} (base : Nat) (t ty e : TypeId) (z : Value) (sz by_ : Nat) (ht : P.underlying t = some (.slice e)) (hi0 : (P.info? e).map (fun i => (i.zero, i.size, i.bytes)) = some (some z, sz, by_))
    (hzs : z.cells.size = sz) (hsz : 0 < sz)
    (v : Value) (n : Nat) (L : List Value) (hown : Own w base e sz v n L)
    (a : Option Addr) (m c : Nat) (news : List Value) (hnews : Rd w a (m * sz) news) (h1 : ∀ u ∈ news, u.oneCell' = true)
    (h63 : n + m ≤ maxLen) (hbytes : (n + m) * by_ ≤ 140737488355328) (hbase : base ≤ w.heap.size) :
    ∃ v' w', (Builtin.append_ #[t, t] ty #[v, .slice a m c]).run P w = .ok v' w' ∧ Own w' base e sz v' (n + m) (L ++ news) ∧ Fr (OwnB v) w w' ∧ Kept v n sz w w' ∧
      (((∃ x o cap, v = .slice (some ⟨x, o, none⟩) n cap ∧ v' = .slice (some ⟨x, o, none⟩) (n + m) cap) ∨ (m = 0 ∧ v' = v)) ∨ (v'.ownBlock = some w.heap.size ∧ Fr Nob w w')) := by
  obtain ⟨i, hi, hz, hsize, hby⟩ := info_parts hi0
  subst hsize
  subst hby
  rcases Nat.eq_zero_or_pos m with rfl | hm
  · obtain ⟨s, cap, rfl, hc, -, -⟩ := hown.form
    have hn : news = [] := List.eq_nil_of_length_eq_zero (by rw [hnews.len]; simp)
    subst hn
    exact ⟨_, w, run_append_zero t ty e i ht hi s n cap hc a c, by simpa using hown, Fr.refl _ _, Kept.refl _ _ _ _, .inl (.inr ⟨rfl, rfl⟩)⟩
  have hms : 0 < m * i.size := Nat.mul_pos hm hsz
  obtain ⟨b, o', rfl, hat⟩ := hnews.at hms
  have hlen : (L ++ news).length = (n + m) * i.size := by rw [List.length_append, hown.1, hnews.len, Nat.add_mul]
  have hsmall : n + m ≤ 9223372036854775807 := by simp only [maxLen] at h63; omega
  have grown : ∀ (old : Nat), old < n + m →
      Own (w.drew.alloc (.cells (L.toArray ++ news.toArray ++ Builtin.zeroCells z.cells (grownCap w (n + m) old e - (n + m))) e)) base e i.size
        (.slice (some ⟨w.heap.size, 0, none⟩) (n + m) (grownCap w (n + m) old e)) (n + m) (L ++ news) ∧
      Fr Nob w (w.drew.alloc (.cells (L.toArray ++ news.toArray ++ Builtin.zeroCells z.cells (grownCap w (n + m) old e - (n + m))) e)) := by
    intro old ho
    have hge := grownCap_ge w (n + m) old e
    have hcm : grownCap w (n + m) old e ≤ maxLen := grownCap_le_maxLen w (n + m) old e h63
    have hz' : (Builtin.zeroCells z.cells (grownCap w (n + m) old e - (n + m))).size = (grownCap w (n + m) old e - (n + m)) * i.size := by simp [size_zeroCells, hzs]
    have hmul : (n + m) * i.size + (grownCap w (n + m) old e - (n + m)) * i.size = grownCap w (n + m) old e * i.size := by rw [← Nat.add_mul]; congr 1; omega
    refine ⟨⟨hlen, .inr ⟨w.heap.size, 0, _, _, rfl, hbase, Has.new w.drew _ e, hge, hcm, ?_, ?_⟩⟩, ((Fr.refl _ w).drew).alloc _⟩
    · rw [List.length_append] at hlen
      simp only [Array.toList_append, List.length_append, Array.length_toList, hz', Nat.zero_add]
      omega
    · simp only [Array.toList_append, List.drop_zero]
      rw [← hlen]
      exact List.take_left
  rcases hown.2 with ⟨rfl, rfl⟩ | ⟨g, o, cap, B, rfl, hbg, hg, hnc, hcm, hl, htake⟩
  · have hx : L = [] := List.eq_nil_of_length_eq_zero (by simpa using hown.1)
    subst hx
    have hr := run_append_nil (P := P) w t ty e i z ht hi hz ⟨b, o', none⟩ m c news hnews.len hat.add hm (by omega) (by have hb := hbytes; simp only [Nat.zero_add] at hb; omega)
    have hgr := grown 0 (by omega)
    simp only [Nat.zero_add, List.nil_append, Array.empty_append] at hgr ⊢
    exact ⟨_, _, hr, hgr.1, hgr.2.mono (fun _ _ t => t.elim), Kept.ofFr hgr.2, .inr ⟨rfl, hgr.2⟩⟩
  · by_cases hroom : n + m ≤ cap
    · have hle : (n + m) * i.size ≤ cap * i.size := Nat.mul_le_mul_right _ hroom
      have hnl := hnews.len
      have hfit : o + n * i.size + news.length ≤ B.length := by rw [Nat.add_mul] at hle; omega
      obtain ⟨w', hr, hh, hf, hzz⟩ := run_append_room2 (P := P) t ty e i ht hi g o n cap B e hg _ m c news hnews h1 hroom hfit
      refine ⟨_, _, hr, ⟨hlen, .inr ⟨g, o, cap, _, rfl, hbg, hh, hroom, hcm, ?_, ?_⟩⟩, hf.mono (fun k _ t => by have e : k = g := t; subst e; rfl), ?_, .inl (.inl ⟨g, o, cap, rfl, rfl⟩)⟩
      · rw [splice_length _ _ _ hfit]; exact hl
      · have := splice_take B o (n * i.size) news hfit
        rw [htake] at this
        rw [← this, hnl, Nat.add_mul]
      · intro b' j hb' hj
        by_cases hbg' : b' = g
        · subst hbg'
          have hj' := hj o cap rfl
          rw [hg.get, hh.get]
          unfold splice
          rw [List.getElem?_append_left (by simp; omega), List.getElem?_take, if_pos hj']
        · exact World.cell?_of_block (a := ⟨b', j, none⟩) (hf.block b' hb' hbg')
    · have hle : n * i.size ≤ cap * i.size := Nat.mul_le_mul_right _ hnc
      have hrd : Rd w (some ⟨g, o, none⟩) (n * i.size) L := by rw [← htake]; exact Rd.ofHas hg o (by omega)
      have holds : ∀ j u, L[j]? = some u → w.cell? ((⟨g, o, none⟩ : Addr).add j) = some u := by
        rcases Nat.eq_zero_or_pos (n * i.size) with h0 | h0
        · have : L = [] := List.eq_nil_of_length_eq_zero (by rw [hown.1, h0])
          subst this; intro j u hu; simp at hu
        · obtain ⟨b2, o2, he, hc2⟩ := hrd.at h0
          simp only [Option.some.injEq, Addr.mk.injEq] at he
          obtain ⟨rfl, rfl, -⟩ := he
          exact hc2.add
      have hr := run_append_grow (P := P) w t ty e i z ht hi hz ⟨g, o, none⟩ n cap L hown.1 holds ⟨b, o', none⟩ m c news hnews.len hat.add (by omega) (by omega) (growslice_fits (by omega) hbytes)
      have hgr := grown cap (by omega)
      exact ⟨_, _, hr, hgr.1, hgr.2.mono (fun _ _ t => t.elim), Kept.ofFr hgr.2, .inr ⟨rfl, hgr.2⟩⟩

section
variable {w : World} {ops : Array Oper} {rest : List Oper} {o : Oper} {a : Act} {Q : Exit → Act → World → Prop}
/-- append(s, x...), x a slice; what stood ahead of the end is kept -/
theorem wl_append_k {s x : Operand} {t : TypeId} (hgd : o.guard = none) (ho : o.op = .call { callee := .builtin .append, args := #[s, x], argTypes := #[t, t] })
    {e : TypeId} {z : Value} {sz by_ : Nat} (ht : P.underlying t = some (.slice e)) (hi0 : (P.info? e).map (fun i => (i.zero, i.size, i.bytes)) = some (some z, sz, by_))
    (hzs : z.cells.size = sz) (hsz : 0 < sz)
    {v : Value} {n base : Nat} {L : List Value} (hown : Own w base e sz v n L) (hs : a.eval s = v)
    {xa : Option Addr} {m c : Nat} {news : List Value} (hx : a.eval x = .slice xa m c) (hnews : Rd w xa (m * sz) news) (h1 : ∀ u ∈ news, u.oneCell' = true)
    (h63 : n + m ≤ maxLen) (hbytes : (n + m) * by_ ≤ 140737488355328) (hbase : base ≤ w.heap.size)
    (h : ∀ v' w', Own w' base e sz v' (n + m) (L ++ news) → Fr (OwnB v) w w' → Kept v n sz w w' → (((∃ x o cap, v = .slice (some ⟨x, o, none⟩) n cap ∧ v' = .slice (some ⟨x, o, none⟩) (n + m) cap) ∨ (m = 0 ∧ v' = v)) ∨ (v'.ownBlock = some w.heap.size ∧ Fr Nob w w')) → wpList P ops Q rest (a.put o.dst v') w') : wpList P ops Q (o :: rest) a w := by
  refine wpList_plain hgd fun K hK => ?_
  obtain ⟨v', w', hr, h2, h3, h4, h5⟩ := run_append3 (P := P) base t o.type e z sz by_ ht hi0 hzs hsz v n L hown xa m c news hnews h1 h63 hbytes hbase
  unfold Oper.wp execOp
  simp only [ho, resolve, invoke, builtin, Sem.run_bind, Sem.run_pure, Result.andThen_ok, List.map_toArray, List.map_cons, List.map_nil, hs, hx, hr]
  exact hK _ _ (h v' w' h2 h3 h4 h5)
end
end Go.Mv
namespace Go.Mv
open Go.RowKit
section
variable {P : Program} {w : World} {ops : Array Oper} {o : Oper} {a : Act} {K : Act → World → Prop} {Q : Exit → Act → World → Prop} {E : Prop}
end
end Go.Mv

/- Literals of n one-cell elements; loads and stores of structs by value. -/
namespace Go.Mv
open Go.RowKit
variable {P : Program}
/-- n cells in a row -/
theorem wl_slit {w : World} {ops : Array Oper} {rest : List Oper} {o : Oper} {a : Act} {Q : Exit → Act → World → Prop} {t e : TypeId} {k : Nat} {parts : Array (Nat × Operand)} (hgd : o.guard = none) (ho : o.op = .buildSlice t k parts)
    (hu : P.underlying t = some (.slice e)) {z : Value} {by_ : Nat} (hi0 : (P.info? e).map (fun i => (i.zero, i.size, i.bytes)) = some (some z, 1, by_)) (vs : List Value) (hp : (parts.toList.map fun p => (p.1, a.eval p.2)) = (vs.zipIdx 0).map fun x => (x.2, x.1))
    (hv : ∀ v ∈ vs, v.cells = #[v]) (hk : vs.length = k) (hz : z.cells.size = 1)
    (h : ∀ w', Has w' w.heap.size vs e → Fr Nob w w' → w'.heap.size = w.heap.size + 1 → wpList P ops Q rest (a.put o.dst (.slice (some ⟨w.heap.size, 0, none⟩) k k)) w') (hk0 : 0 < k := by decide) (hk24 : k ≤ 16777216 := by decide) : wpList P ops Q (o :: rest) a w := by
  have _hz := hz
  obtain ⟨i, hi, hz0⟩ : ∃ i, P.info? e = some i ∧ (i.zero, i.size, i.bytes) = (some z, 1, by_) := by simpa using hi0
  simp only [Prod.mk.injEq] at hz0
  obtain ⟨hz1, hsz, hby⟩ := hz0
  have hf : Instr.fill (fun j => some (j * i.size, i.size)) ((Array.range (k * i.size)).map (z.cells[· % z.cells.size]!)) (parts.map fun (i, x) => (i, a.eval x)).toList = some vs.toArray := by
    rw [show (parts.map fun (i, x) => (i, a.eval x)).toList = (parts.toList.map fun p => (p.1, a.eval p.2)) by simp, hp, hsz]
    exact Great.fill_flat vs _ hv (by simp [hk])
  exact wpList_buildSlice hgd t e k _ ho _ i _ hu hi hz1 (by rw [hsz]; omega) (by rw [hsz]; omega) hf (h _ (Has.new w vs.toArray e) ((Fr.refl _ w).alloc _) (by simp))

/-- a whole row (array or struct) is read, out of cells -/
theorem wl_loadR {w : World} {ops : Array Oper} {rest : List Oper} {o : Oper} {a : Act} {Q : Exit → Act → World → Prop} {ty : TypeId} {x : Operand} (hgd : o.guard = none) (ho : o.op = .load ty x) {d : TypeDesc} (hu : P.underlying ty = some d) (hd : d.isRow = true) {g p : Nat} (hx : a.eval x = .pointer (some ⟨g, p, none⟩))
    {cs : List Value} (hg : At w g p cs) (hi : (P.info? ty).map (·.size) = some cs.length)
    (h : wpList P ops Q rest (a.put o.dst (.agg cs.toArray)) w) : wpList P ops Q (o :: rest) a w :=
  wpList_load_mid hgd ty x ho g p hx cs d (fun j v hv => hg j v hv) hu hd hi h
end Go.Mv

/- An empty slice literal. -/
namespace Go.Mv
open Go.RowKit
variable {P : Program}
end Go.Mv
namespace Go.Mv
open Go.RowKit
variable {P : Program}
end Go.Mv
namespace Go.Mv
open Go.RowKit
variable {P : Program}
end Go.Mv

/- More makers of one block for the steps of a drawn region: slice literals, boxes; operations that only yield a value. -/
namespace Go.Mv
open Go.RowKit
section
variable {P : Program} {Q : Exit → Act → World → Prop} {Sx : World → Prop} {S : Nat → Prop} {w0 : World} {tl : Pl} {l : List Oper} {i : Nat} {s : List LS} {Γ : List Flt} {BL : List Blk} {R : World → Prop} {A : (Nat → Value) → Act} {o : Oper}
theorem parts_arr {parts : Array (Nat × Operand)} {ρ : Operand → Value} {M : List (Nat × Value)} (h : (parts.toList.map fun p => (p.1, ρ p.2)) = M) : (parts.map fun (i, x) => (i, ρ x)) = M.toArray := by
  apply Array.toList_inj.1
  rw [Array.toList_map, ← h]
theorem mk_rows {t e : TypeId} {k : Nat} {M : List (Nat × Value)} (hu : P.underlying t = some (.slice e)) {z : Value} {sz by_ : Nat} (hi0 : (P.info? e).map (fun i => (i.zero, i.size, i.bytes)) = some (some z, sz, by_)) (vs : List Value) (hp : M = (vs.zipIdx 0).map fun x => (x.2, x.1))
    (hv : ∀ v ∈ vs, v.cells.size = sz) (hk : vs.length = k) (L : List Value) (hL : (vs.flatMap fun v => v.cells.toList) = L) (hk0 : 0 < k * sz := by decide) (hk24 : k * sz ≤ 16777216 := by decide) :
    Mk P (do pure (.value (← Instr.buildSlice t k M.toArray))) (fun g => .slice (some ⟨g, 0, none⟩) k k) L e := by
  intro w
  obtain ⟨i, hi, hz0⟩ : ∃ i, P.info? e = some i ∧ (i.zero, i.size, i.bytes) = (some z, sz, by_) := by simpa using hi0
  simp only [Prod.mk.injEq] at hz0
  obtain ⟨hz1, hsz, hby⟩ := hz0
  have hs0 : 0 < sz := Nat.pos_of_mul_pos_left hk0
  have hf : Instr.fill (fun j => some (j * i.size, i.size)) ((Array.range (k * i.size)).map (z.cells[· % z.cells.size]!)) M = some L.toArray := by
    rw [hp, hsz, ← hL]
    exact Great.fill_whole hs0 vs _ hv (by simp [hk])
  refine ⟨w.heap.size, w.alloc (.cells L.toArray e), ?_, (Fr.refl _ w).alloc _, Nat.le_refl _, Has.new w L.toArray e⟩
  simp only [Sem.run_bind, run_buildSlice w t e k M.toArray L.toArray i z hu hi hz1 (by rw [hsz]; omega) (by rw [hsz]; omega) (by simpa using hf), Result.andThen_ok, Sem.run_pure]
theorem wp_val {a : Act} {w : World} {K : Act → World → Prop} {v : Value} (hv : (execOp a.eval o).run P w = .ok (.value v) w) (h : K (a.put o.dst v) w) : o.wp P a w K Q := by
  unfold Oper.wp
  rw [hv]
  exact h
theorem wp_rows {a : Act} {w : World} {K : Act → World → Prop} {t e : TypeId} {k : Nat} {parts : Array (Nat × Operand)} (hst : St S w0 w BL) (hop : o.op = .buildSlice t k parts) (hu : P.underlying t = some (.slice e)) {z : Value} {sz by_ : Nat} (hi0 : (P.info? e).map (fun i => (i.zero, i.size, i.bytes)) = some (some z, sz, by_))
    (vs : List Value) (hp : (parts.toList.map fun p => (p.1, a.eval p.2)) = (vs.zipIdx 0).map fun x => (x.2, x.1)) (hv : ∀ v ∈ vs, v.cells.size = sz) (hk : vs.length = k) (L : List Value) (hL : (vs.flatMap fun v => v.cells.toList) = L)
    (h : ∀ g w', St S w0 w' (BL ++ [(g, L, e)]) → K (a.put o.dst (.slice (some ⟨g, 0, none⟩) k k)) w') (hk0 : 0 < k * sz := by decide) (hk24 : k * sz ≤ 16777216 := by decide) : o.wp P a w K Q :=
  wp_mk (mk_rows hu hi0 vs rfl hv hk L hL hk0 hk24) (by unfold execOp; simp only [hop]; rw [parts_arr hp]) hst fun g w' h1 _ => h g w' h1
end
end Go.Mv

/- Slices of the call's own that lie apart: one fact for all of them. -/
namespace Go.Mv
open Go.RowKit
variable {P : Program}
/-- an owned slice: its value, its elements' type, their cells each, how many, the cells -/
structure Ox where
  v : Value
  T : TypeId
  sz : Nat
  n : Nat
  L : List Value
/-- all of l are owned (from base on), no two share a block, none has a block of X -/
structure OwS (w : World) (base : Nat) (X : Nat → Prop) (l : List Ox) : Prop where
  own : ∀ x ∈ l, Own w base x.T x.sz x.v x.n x.L
  off : ∀ x ∈ l, ∀ k, OwnB x.v k → ¬ X k
  sep : l.Pairwise fun a b => ∀ k, OwnB a.v k → ¬ OwnB b.v k
  lt : ∀ k, X k → k < w.heap.size
theorem OwS.nil {w : World} {base : Nat} {X : Nat → Prop} (h : ∀ k, X k → k < w.heap.size) : OwS w base X [] := ⟨by simp, by simp, List.Pairwise.nil, h⟩
theorem OwS.at {w : World} {base : Nat} {X : Nat → Prop} {l : List Ox} (h : OwS w base X l) (i : Nat) {x : Ox} (hi : l[i]? = some x) : Own w base x.T x.sz x.v x.n x.L := h.own x (List.mem_of_getElem? hi)
theorem OwS.keep {w w' : World} {base : Nat} {X : Nat → Prop} {l : List Ox} (h : OwS w base X l) {S : Nat → Prop} (hf : Fr S w w') (hS : ∀ k, S k → X k) : OwS w' base X l :=
  ⟨fun x hx => (h.own x hx).keep hf fun k hk hs => h.off x hx k hk (hS k hs), h.off, h.sep, fun k hk => Nat.lt_of_lt_of_le (h.lt k hk) hf.size⟩
theorem OwS.still {w w' : World} {base : Nat} {X : Nat → Prop} {l : List Ox} (h : OwS w base X l) (hf : Fr Nob w w') : OwS w' base X l := h.keep hf fun _ t => t.elim
/-- one more -/
theorem OwS.new {w w' : World} {base : Nat} {X : Nat → Prop} {l : List Ox} (h : OwS w base X l) (hf : Fr Nob w w') {x : Ox} (ho : Own w' w.heap.size x.T x.sz x.v x.n x.L) (hb : base ≤ w.heap.size) : OwS w' base X (l ++ [x]) := by
  have h2 := h.still hf
  refine ⟨?_, ?_, ?_, h2.lt⟩
  · intro y hy
    rcases List.mem_append.1 hy with hy | hy
    · exact h2.own y hy
    · rw [List.mem_singleton.1 hy]; exact ho.mono hb
  · intro y hy
    rcases List.mem_append.1 hy with hy | hy
    · exact h2.off y hy
    · rw [List.mem_singleton.1 hy]
      intro k hk hx
      have h3 := (ho.lt hk).1
      have h4 := h.lt k hx
      omega
  · rw [List.pairwise_append]
    refine ⟨h.sep, by simp, fun a ha b hb2 k hk hk2 => ?_⟩
    rw [List.mem_singleton.1 hb2] at hk2
    have h3 := (ho.lt hk2).1
    have h4 := ((h.own a ha).lt hk).2
    omega
theorem OwS.sepAt {w : World} {base : Nat} {X : Nat → Prop} {l : List Ox} (h : OwS w base X l) {i j : Nat} {x y : Ox} (hi : l[i]? = some x) (hj : l[j]? = some y) (hij : i ≠ j) : ∀ k, OwnB x.v k → ¬ OwnB y.v k := by
  obtain ⟨hi1, rfl⟩ := List.getElem?_eq_some_iff.1 hi
  obtain ⟨hj1, rfl⟩ := List.getElem?_eq_some_iff.1 hj
  rcases Nat.lt_or_ge i j with k | k
  · exact List.pairwise_iff_getElem.1 h.sep i j hi1 hj1 k
  · exact fun b hb hc => List.pairwise_iff_getElem.1 h.sep j i hj1 hi1 (by omega) b hc hb
/-- the i-th is another -/
theorem OwS.put {w w' : World} {base : Nat} {X : Nat → Prop} {l : List Ox} (h : OwS w base X l) (i : Nat) {x y : Ox} (hi : l[i]? = some x) (hf : Fr (OwnB x.v) w w') (ho : Own w' base y.T y.sz y.v y.n y.L) (hb : y.v.ownBlock = x.v.ownBlock ∨ y.v.ownBlock = some w.heap.size) : OwS w' base X (l.set i y) := by
  obtain ⟨hi1, hi2⟩ := List.getElem?_eq_some_iff.1 hi
  have off : ∀ (z : Ox) (j : Nat), l[j]? = some z → i ≠ j → ∀ k, OwnB y.v k → ¬ OwnB z.v k := by
    intro z j hj hij k hk hz
    rcases hb with hb | hb
    · exact h.sepAt hi hj hij k (by unfold OwnB at *; rw [← hb]; exact hk) hz
    · have h3 := ((h.at j hj).lt hz).2
      have h4 : w.heap.size = k := by unfold OwnB at hk; rw [hb] at hk; exact Option.some.inj hk
      omega
  refine ⟨?_, ?_, ?_, fun k hk => Nat.lt_of_lt_of_le (h.lt k hk) hf.size⟩
  · intro z hz
    obtain ⟨j, hj1, hj2⟩ := List.mem_iff_getElem.1 hz
    rw [List.length_set] at hj1
    rw [List.getElem_set] at hj2
    by_cases e : i = j
    · rw [if_pos e] at hj2; subst hj2; exact ho
    · rw [if_neg e] at hj2
      subst hj2
      exact (h.own _ (List.getElem_mem hj1)).keep hf fun k hk hs => h.sepAt hi (List.getElem?_eq_getElem hj1) e k hs hk
  · intro z hz
    obtain ⟨j, hj1, hj2⟩ := List.mem_iff_getElem.1 hz
    rw [List.length_set] at hj1
    rw [List.getElem_set] at hj2
    by_cases e : i = j
    · rw [if_pos e] at hj2
      subst hj2
      intro k hk hx
      rcases hb with hb | hb
      · exact h.off x (List.mem_of_getElem? hi) k (by unfold OwnB at *; rw [← hb]; exact hk) hx
      · have h3 := h.lt k hx
        have h4 : w.heap.size = k := by unfold OwnB at hk; rw [hb] at hk; exact Option.some.inj hk
        omega
    · rw [if_neg e] at hj2
      subst hj2
      exact h.off _ (List.getElem_mem hj1)
  · rw [List.pairwise_iff_getElem]
    intro j k hj hk hjk
    have e := List.pairwise_iff_getElem.1 h.sep j k (by simpa using hj) (by simpa using hk) hjk
    rw [List.getElem_set, List.getElem_set]
    have hj' : j < l.length := by simpa using hj
    have hk' : k < l.length := by simpa using hk
    by_cases e1 : i = j
    · subst e1
      rw [if_pos rfl, if_neg (by omega)]
      exact off _ k (List.getElem?_eq_getElem hk') (by omega)
    · rw [if_neg e1]
      by_cases e2 : i = k
      · subst e2
        rw [if_pos rfl]
        exact fun b hb2 hc => off _ j (List.getElem?_eq_getElem hj') e1 b hc hb2
      · rw [if_neg e2]; exact e
/-- what lies elsewhere stays where an owned slice is written -/
theorem OwS.ne {w : World} {base : Nat} {X : Nat → Prop} {l : List Ox} (h : OwS w base X l) (i : Nat) {x : Ox} (hi : l[i]? = some x) {g : Nat} (hg : X g) : ¬ OwnB x.v g := fun hk => h.off x (List.mem_of_getElem? hi) g hk hg
theorem OwS.mono {w : World} {base : Nat} {X Y : Nat → Prop} {l : List Ox} (h : OwS w base X l) (hs : ∀ k, Y k → X k) : OwS w base Y l :=
  ⟨h.own, fun x hx k hk hy => h.off x hx k hk (hs k hy), h.sep, fun k hk => h.lt k (hs k hk)⟩
theorem OwS.less {w : World} {base : Nat} {X : Nat → Prop} {l l' : List Ox} (h : OwS w base X l) (hs : l'.Sublist l) : OwS w base X l' :=
  ⟨fun x hx => h.own x (hs.subset hx), fun x hx => h.off x (hs.subset hx), h.sep.sublist hs, h.lt⟩
theorem splice_drop (B : List Value) (o k : Nat) (cs : List Value) (h : o + k + cs.length ≤ B.length) : (splice B (o + k) cs).drop o = splice (B.drop o) k cs := by
  unfold splice
  have h1 : (B.take (o + k)).drop o = (B.drop o).take k := by rw [List.drop_take]; congr 1; omega
  rw [List.drop_append_of_le_length (by simp; omega), h1, List.drop_drop]
  congr 2
  congr 1
  omega
theorem splice_take2 (B : List Value) (k m : Nat) (cs : List Value) (h : k + cs.length ≤ m) (hm : m ≤ B.length) : (splice B k cs).take m = splice (B.take m) k cs := by
  apply List.ext_getElem?
  intro i
  unfold splice
  have e1 : min k B.length = k := by omega
  have e2 : min k (min m B.length) = k := by omega
  simp only [List.getElem?_take, List.getElem?_append, List.length_take, List.getElem?_drop, e1, e2]
  by_cases h1 : i < m
  · by_cases h3 : i < k
    · simp only [h1, h3, if_true]
    · by_cases h2 : i - k < cs.length
      · simp only [h1, h3, h2, if_true, if_false]
      · have h4 : k + cs.length + (i - k - cs.length) < m := by omega
        simp only [h1, h3, h2, h4, if_true, if_false]
  · have h3 : ¬ i < k := by omega
    have h2 : ¬ i - k < cs.length := by omega
    have h4 : ¬ k + cs.length + (i - k - cs.length) < m := by omega
    simp only [h1, h3, h2, h4, if_false]
/-- an element of an owned slice is written -/
theorem Own.wrote {w w' : World} {base : Nat} {T : TypeId} {sz : Nat} {g o n cap : Nat} {L : List Value} (h : Own w base T sz (.slice (some ⟨g, o, none⟩) n cap) n L) {k : Nat} {cs : List Value} (hk : k + cs.length ≤ n * sz)
    (hw : ∀ B, Has w g B T → Has w' g (splice B (o + k) cs) T) : Own w' base T sz (.slice (some ⟨g, o, none⟩) n cap) n (splice L k cs) := by
  refine ⟨by rw [length_splice _ _ _ (by rw [h.1]; exact hk)]; exact h.1, .inr ?_⟩
  rcases h.2 with ⟨h2, -⟩ | ⟨g', o', cap', B, h2, hb, hh, hn, hm, hl, ht⟩
  · cases h2
  · cases h2
    have hle : n * sz ≤ cap * sz := Nat.mul_le_mul_right _ hn
    refine ⟨g, o, cap, _, rfl, hb, hw B hh, hn, hm, by rw [length_splice _ _ _ (by omega)]; exact hl, ?_⟩
    rw [splice_drop _ _ _ _ (by omega), splice_take2 _ _ _ _ hk (by simp; omega), ht]
section
variable {w : World} {ops : Array Oper} {rest : List Oper} {o : Oper} {a : Act} {Q : Exit → Act → World → Prop} {base : Nat} {X : Nat → Prop} {l : List Ox}
end
section
variable {w : World} {o : Oper} {a : Act} {K : Act → World → Prop} {Q : Exit → Act → World → Prop} {base : Nat} {X : Nat → Prop} {l : List Ox}
end
end Go.Mv

/- Wire items, plain: how the program writes an item; how the reference does; they agree. -/
namespace Go.Mv
inductive It where
  | mk (kind : Int) (num : Nat) (data : List UInt8) (list : List It)
/-- a number, big end first -/
def beW (n : Nat) : Nat → List UInt8
  | 0 => []
  | z + 1 => UInt8.ofNat (n / 256 ^ z) :: beW n z
def headW (k n : Nat) : List UInt8 :=
  if n < 24 then [UInt8.ofNat (k * 32 + n)] else if n < 256 then UInt8.ofNat (k * 32 + 24) :: beW n 1 else if n < 65536 then UInt8.ofNat (k * 32 + 25) :: beW n 2
  else if n < 4294967296 then UInt8.ofNat (k * 32 + 26) :: beW n 4 else UInt8.ofNat (k * 32 + 27) :: beW n 8
/-- is a list of bytes less than another? -/
def ltW : List UInt8 → List UInt8 → Bool
  | [], [] => false
  | [], _ :: _ => true
  | _ :: _, [] => false
  | a :: l, b :: m => if a = b then ltW l m else decide (a.toNat < b.toNat)
section
variable (u8 : List UInt8 → Bool)
/-- has it what an item of its kind has? -/
def fitW (k : Int) (n : Nat) (d : List UInt8) (m : Nat) : Bool :=
  (k == 0 || k == 1 || k == 2 || k == 3 || k == 4 || k == 5 || k == 7) && (n == 0 || k == 0 || k == 1 || k == 7) && (d.length == 0 || k == 2 || k == 3) && (m == 0 || k == 4 || k == 5) &&
  (k != 3 || u8 d) && (k != 7 || (decide (20 ≤ n) && decide (n ≤ 22))) && (k != 5 || m % 2 == 0)
mutual
/-- the program: what is left of the count, what is written -/
def prW : It → Nat → Nat → List UInt8 → Option (Nat × List UInt8)
  | .mk k n d l, deep, left, b =>
    if left = 0 ∨ 16 < deep ∨ fitW u8 k n d l.length = false then none
    else
      let r := if k = 0 ∨ k = 1 ∨ k = 7 then some (left - 1, b ++ headW k.toNat n)
        else if k = 2 ∨ k = 3 then (if d.length ≤ 65536 then some (left - 1, b ++ headW k.toNat d.length ++ d) else none)
        else prWs l (k == 5) true deep (left - 1) (b ++ headW k.toNat (if k = 5 then l.length / 2 else l.length)) none
      match r with
      | none => none
      | some (left', b') => if b'.length ≤ 65536 then some (left', b') else none
/-- .. the items of a list: is the next one a key? what was the last key? -/
def prWs : List It → Bool → Bool → Nat → Nat → List UInt8 → Option (List UInt8) → Option (Nat × List UInt8)
  | [], _, _, _, left, b, _ => some (left, b)
  | t :: ts, keyed, key, deep, left, b, last =>
    match prW t (deep + 1) left b with
    | none => none
    | some (left', b') =>
      if keyed && key then
        (if last.all (fun x => ltW x (b'.drop b.length)) then prWs ts keyed false deep left' b' (some (b'.drop b.length)) else none)
      else prWs ts keyed true deep left' b' last
end
mutual
/-- the reference: how many items -/
def vlW : It → Nat → Nat → Option Nat
  | .mk k n d l, deep, left =>
    if left = 0 ∨ 16 < deep ∨ fitW u8 k n d l.length = false then none
    else (vlWs l deep (left - 1)).map (· + 1)
def vlWs : List It → Nat → Nat → Option Nat
  | [], _, _ => some 0
  | t :: ts, deep, left =>
    match vlW t (deep + 1) left with
    | none => none
    | some m => (vlWs ts deep (left - m)).map (· + m)
end
end
mutual
/-- the reference: the bytes -/
def wrW : It → Option (List UInt8)
  | .mk k n d l =>
    if k = 0 ∨ k = 1 ∨ k = 7 then some (headW k.toNat n)
    else if k = 2 ∨ k = 3 then (if (headW k.toNat d.length ++ d).length ≤ 65536 then some (headW k.toNat d.length ++ d) else none)
    else wrWs l (k == 5) true (headW k.toNat (if k = 5 then l.length / 2 else l.length)) none
def wrWs : List It → Bool → Bool → List UInt8 → Option (List UInt8) → Option (List UInt8)
  | [], _, _, out, _ => some out
  | t :: ts, keyed, key, out, last =>
    match wrW t with
    | none => none
    | some s =>
      if 65536 < out.length + s.length then none
      else if keyed && key then (if last.all (fun x => ltW x s) then wrWs ts keyed false (out ++ s) (some s) else none)
      else wrWs ts keyed true (out ++ s) last
end
theorem wrWs_len : ∀ (ts : List It) (keyed key : Bool) (out : List UInt8) (last : Option (List UInt8)) (o : List UInt8), wrWs ts keyed key out last = some o → out.length ≤ o.length
  | [], _, _, out, _, o, h => by unfold wrWs at h; simp at h; subst h; omega
  | t :: ts, keyed, key, out, last, o, h => by
    unfold wrWs at h
    split at h
    · cases h
    · rename_i s _
      split at h
      · cases h
      · split at h
        · split at h
          · have := wrWs_len ts _ _ _ _ o h
            rw [List.length_append] at this; omega
          · cases h
        · have := wrWs_len ts _ _ _ _ o h
          rw [List.length_append] at this; omega
def chkW (r : Option (Nat × List UInt8)) : Option (Nat × List UInt8) := match r with
  | none => none
  | some (l, b) => if b.length ≤ 65536 then some (l, b) else none
/-- both at once -/
def bothW (left : Nat) (b0 : List UInt8) : Option Nat → Option (List UInt8) → Option (Nat × List UInt8)
  | some m, some s => if b0.length + s.length ≤ 65536 then some (left - m, b0 ++ s) else none
  | _, _ => none
mutual
theorem prW_eq (u8 : List UInt8 → Bool) : ∀ (t : It) (deep left : Nat) (b : List UInt8), prW u8 t deep left b = bothW left b (vlW u8 t deep left) (wrW t)
  | .mk k n d l, deep, left, b => by
    unfold prW vlW wrW
    by_cases h0 : left = 0 ∨ 16 < deep ∨ fitW u8 k n d l.length = false
    · rw [if_pos h0, if_pos h0]; rfl
    · rw [if_neg h0, if_neg h0]
      have hfit : fitW u8 k n d l.length = true := by
        cases hf : fitW u8 k n d l.length with
        | true => rfl
        | false => exact absurd (.inr (.inr hf)) h0
      by_cases h1 : k = 0 ∨ k = 1 ∨ k = 7
      · have hl : l = [] := by
          unfold fitW at hfit
          simp only [Bool.and_eq_true, Bool.or_eq_true, beq_iff_eq] at hfit
          obtain ⟨⟨⟨⟨-, h⟩, -⟩, -⟩, -⟩ := hfit
          exact List.eq_nil_of_length_eq_zero (by omega)
        subst hl
        simp only [h1, if_true]
        unfold vlWs bothW
        simp only [Option.map_some, List.length_append]
      · by_cases h2 : k = 2 ∨ k = 3
        · have hl : l = [] := by
            unfold fitW at hfit
            simp only [Bool.and_eq_true, Bool.or_eq_true, beq_iff_eq] at hfit
            obtain ⟨⟨⟨⟨-, h⟩, -⟩, -⟩, -⟩ := hfit
            exact List.eq_nil_of_length_eq_zero (by omega)
          subst hl
          simp only [h1, h2, if_true, if_false]
          unfold vlWs
          by_cases h3 : (headW k.toNat d.length ++ d).length ≤ 65536
          · have h4 : d.length ≤ 65536 := by rw [List.length_append] at h3; omega
            rw [if_pos h3, if_pos h4]
            unfold bothW
            simp only [Option.map_some, List.append_assoc, List.length_append]
          · rw [if_neg h3]
            unfold bothW
            by_cases h4 : d.length ≤ 65536
            · rw [if_pos h4]
              simp only [Option.map_some]
              rw [if_neg]
              rw [List.length_append] at h3
              rw [List.length_append, List.length_append]
              omega
            · rw [if_neg h4]
              simp only [Option.map_some]
        · simp only [h1, h2, if_false]
          have ih := prWs_eq u8 l (k == 5) true deep (left - 1) b (headW k.toNat (if k = 5 then l.length / 2 else l.length)) none
          unfold chkW at ih
          rw [ih]
          cases hv : vlWs u8 l deep (left - 1) with
          | none => rfl
          | some m =>
            cases hw : wrWs l (k == 5) true (headW k.toNat (if k = 5 then l.length / 2 else l.length)) none with
            | none => rfl
            | some s =>
              unfold bothW
              simp only [Option.map_some, show left - 1 - m = left - (m + 1) by omega]
theorem prWs_eq (u8 : List UInt8 → Bool) : ∀ (ts : List It) (keyed key : Bool) (deep left : Nat) (b0 out : List UInt8) (last : Option (List UInt8)), chkW (prWs u8 ts keyed key deep left (b0 ++ out) last) = bothW left b0 (vlWs u8 ts deep left) (wrWs ts keyed key out last)
  | [], keyed, key, deep, left, b0, out, last => by
    unfold prWs vlWs wrWs chkW bothW
    simp only [List.length_append, Nat.sub_zero]
  | t :: ts, keyed, key, deep, left, b0, out, last => by
    unfold prWs vlWs wrWs
    rw [prW_eq u8 t (deep + 1) left (b0 ++ out)]
    cases hv : vlW u8 t (deep + 1) left with
    | none => rfl
    | some m =>
      cases hw : wrW t with
      | none =>
        have e : bothW left (b0 ++ out) (some m) none = none := rfl
        rw [e]
        show none = bothW left b0 ((vlWs u8 ts deep (left - m)).map (· + m)) none
        cases vlWs u8 ts deep (left - m) <;> rfl
      | some s =>
        have e : bothW left (b0 ++ out) (some m) (some s) = if (b0 ++ out).length + s.length ≤ 65536 then some (left - m, b0 ++ out ++ s) else none := rfl
        rw [e]
        by_cases h3 : (b0 ++ out).length + s.length ≤ 65536
        · rw [if_pos h3]
          have h4 : ¬ 65536 < out.length + s.length := by rw [List.length_append] at h3; omega
          simp only [h4, if_false]
          rw [List.drop_left]
          have go : ∀ kk ll, chkW (prWs u8 ts keyed kk deep (left - m) (b0 ++ out ++ s) ll) = bothW left b0 ((vlWs u8 ts deep (left - m)).map (· + m)) (wrWs ts keyed kk (out ++ s) ll) := fun kk ll => by
            rw [List.append_assoc, prWs_eq u8 ts keyed kk deep (left - m) b0 (out ++ s) ll]
            cases vlWs u8 ts deep (left - m) with
            | none => rfl
            | some m2 =>
              cases wrWs ts keyed kk (out ++ s) ll with
              | none => rfl
              | some o =>
                unfold bothW
                simp only [Option.map_some, show left - m - m2 = left - (m2 + m) by omega]
          by_cases h5 : (keyed && key) = true
          · simp only [h5, if_true]
            by_cases h6 : last.all (fun x => ltW x s) = true
            · simp only [h6, if_true]
              exact go _ _
            · rw [if_neg h6, if_neg h6]
              cases vlWs u8 ts deep (left - m) <;> rfl
          · rw [if_neg h5, if_neg h5]
            exact go _ _
        · rw [if_neg h3]
          have big : ∀ kk ll, bothW left b0 ((vlWs u8 ts deep (left - m)).map (· + m)) (wrWs ts keyed kk (out ++ s) ll) = none := fun kk ll => by
            cases vlWs u8 ts deep (left - m) with
            | none => rfl
            | some m2 =>
              cases hq : wrWs ts keyed kk (out ++ s) ll with
              | none => rfl
              | some o =>
                have := wrWs_len ts keyed kk (out ++ s) ll o hq
                unfold bothW
                simp only [Option.map_some]
                rw [if_neg]
                rw [List.length_append] at this h3
                omega
          have nn : bothW left b0 ((vlWs u8 ts deep (left - m)).map (· + m)) none = none := by cases vlWs u8 ts deep (left - m) <;> rfl
          simp only
          show none = _
          split
          · exact nn.symm
          · split
            · split
              · exact (big _ _).symm
              · exact nn.symm
            · exact (big _ _).symm
end
end Go.Mv
namespace Go.Mv
theorem headW_len (k n : Nat) : (headW k n).length ≤ 9 := by
  unfold headW
  split
  · simp
  · split
    · simp [beW]
    · split
      · simp [beW]
      · split <;> simp [beW]
theorem wrWs_le : ∀ (ts : List It) (keyed key : Bool) (out : List UInt8) (last : Option (List UInt8)) (o : List UInt8), out.length ≤ 65536 → wrWs ts keyed key out last = some o → o.length ≤ 65536
  | [], _, _, out, _, o, h0, h => by unfold wrWs at h; simp at h; subst h; exact h0
  | t :: ts, keyed, key, out, last, o, h0, h => by
    unfold wrWs at h
    split at h
    · cases h
    · rename_i s _
      split at h
      · cases h
      · split at h
        · split at h
          · exact wrWs_le ts _ _ _ _ o (by rw [List.length_append]; omega) h
          · cases h
        · exact wrWs_le ts _ _ _ _ o (by rw [List.length_append]; omega) h
theorem wrW_le (t : It) (s : List UInt8) (h : wrW t = some s) : s.length ≤ 65536 := by
  cases t with
  | mk k n d l =>
    unfold wrW at h
    split at h
    · simp at h; subst h; have := headW_len k.toNat n; omega
    · split at h
      · split at h
        · rename_i h1
          rw [Option.some.injEq] at h; subst h; exact h1
        · cases h
      · exact wrWs_le l _ _ _ _ s (by have := headW_len k.toNat (if k = 5 then l.length / 2 else l.length); omega) h
/-- PRINT: the program's answer is the reference's -/
theorem printW (u8 : List UInt8 → Bool) (t : It) : (prW u8 t 1 4096 []).map (·.2) = if (vlW u8 t 1 4096).isSome then wrW t else none := by
  rw [prW_eq]
  cases vlW u8 t 1 4096 with
  | none => rfl
  | some m =>
    cases hw : wrW t with
    | none => rfl
    | some s =>
      have := wrW_le t s hw
      unfold bothW
      simp
      exact this
end Go.Mv
