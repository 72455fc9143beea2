/- Words for memory: which blocks may have turned (Fr), a block known whole (Has), a slice that reads as a list of cells (Rd). Nothing here knows of a program; Laws of the walk for make, copy, append and conversions, over the words of Mem. Nothing here knows of a program; append onto an owned slice, once more: what lay ahead of the new cells is kept, in the old block too; Plain lemmas on lists: filling a list from the left; Rules of the walk for words: what Go's operators on 64-bit words and on bytes are on UInt64 and UInt8; Whole arrays in memory: load, store, result, over the words of Mem; Literals of structs and of slices, boxes; One-cell literals of any kind; owned slices and other blocks; Literals of n one-cell elements; loads and stores of structs by value; An empty slice literal; mintvaultref1.Lent: the bytes of a text, at the front of a longer list; mintvaultref1.Still: is a list all as it was lent?; Pure sponge: what the program's and the reference's permutation compute, and that the two are one; word functions of the sponge; the constants of the rounds, and how far the lanes are turned; how far the lanes are turned; the state: bytes are added, and given; the state's bytes; Permute; the permutation of the program; the reference's round; Pure sponge: the permutation of bytes, both ways; Permute, the program's and the reference's; Permute of the reference; Pure sponge: bytes are fed one by one; the sponge and what is hashed with it; Pure sponge: words and their bytes are one; Slice expressions as equations on their runs: to be laid ahead of a walk; absorber.write; The reference's sponge, on bytes: what it computes is the sponge on words; The reference's sponge; absorber.out, and what hashes with it; absorber.frame; the reference's Frame; Hash, stream and Stream of the sponge; sponge.tag and sponge.Tag; mintvaultlaw1.SpongeTurns: the walk of the law; The reference's Hash and Stream; the law SpongeHashes; Arguments that were handed in, opened into the words of Mem; The reference's Tag; A log of the sponge, the reference's: NewLog, Say, Ask, Clone; The tree, plain: what a path leads to, from its end (the document) and from its beginning (the program); The tree: node, leafHash, bytes.Equal, sized, lists, small; the reference's leaf, node, half, sized; SpongeLogs: what stays of many logs, step by step; mintvaultlaw8.lists, small: lists of strings as lists of bytes; bytes.Clone; lists of owned slices of bytes that lie apart; The reference's Apart: of lists that lie apart it returns true; The reference's Apart: the first two loops. -/
import Derived.WalkKit
import Derived.WalkLawsBesides
import Derived.WalkSpells
import Derived.Lib.Hide
import Derived.Laws.CopyOwn
import Derived.Deep.QuietTactic
import Derived.BigQuiet
import Derived.StillTailTactics
import Derived.Deep.RegionHeld3
import Derived.Deep.RegionWith
import Derived.Deep.DeepFit
import Derived.Deep.MidRow
import Derived.Laws.Tables
import Derived.Great.BuildSlice
import Derived.Test.YtdadnajbdnbbdaaProg
import Derived.KernelRfl
import Derived.SliceStrings
import Derived.SizedLaws
import Derived.OpenShut
import Derived.ProofKit
import Derived.IntWalk
import Derived.Deep.DeepCutAuto
namespace Go.Mv
open Go.RowKit

/-- no block that was there has turned, but those of S -/
structure Fr (S : Nat → Prop) (w w' : World) : Prop where
  os : w'.os = w.os
  tape : w'.tape = w.tape
  output : w'.output = w.output
  size : w.heap.size ≤ w'.heap.size
  block : ∀ k, k < w.heap.size → ¬ S k → w'.heap[k]? = w.heap[k]?

/-- no block at all -/
def Nob : Nat → Prop := fun _ => False
/-- one block -/
def One (g : Nat) : Nat → Prop := fun k => k = g

theorem Fr.refl (S : Nat → Prop) (w : World) : Fr S w w := ⟨rfl, rfl, rfl, Nat.le_refl _, fun _ _ _ => rfl⟩
theorem Fr.trans {S T : Nat → Prop} {a b c : World} (h : Fr S a b) (k : Fr T b c) (hT : ∀ i, i < a.heap.size → T i → S i) : Fr S a c :=
  ⟨k.os.trans h.os, k.tape.trans h.tape, k.output.trans h.output, Nat.le_trans h.size k.size,
    fun i hi hs => (k.block i (Nat.lt_of_lt_of_le hi h.size) (fun t => hs (hT i hi t))).trans (h.block i hi hs)⟩
theorem Fr.mono {S T : Nat → Prop} {a b : World} (h : Fr S a b) (hT : ∀ i, i < a.heap.size → S i → T i) : Fr T a b :=
  ⟨h.os, h.tape, h.output, h.size, fun i hi hs => h.block i hi (fun t => hs (hT i hi t))⟩
/-- two calls that turn nothing -/
theorem Fr.then {a b c : World} (h : Fr Nob a b) (k : Fr Nob b c) : Fr Nob a c := h.trans k (fun _ _ t => t)
/-- what a call did to a block that is new -/
theorem Fr.new {S : Nat → Prop} {g : Nat} {a b c : World} (h : Fr S a b) (k : Fr (One g) b c) (hg : a.heap.size ≤ g) : Fr S a c :=
  h.trans k (fun i hi t => by have : i = g := t; omega)
theorem Fr.same {S : Nat → Prop} {a b c : World} (h : Fr S a b) (k : Fr Nob b c) : Fr S a c := h.trans k (fun _ _ t => t.elim)
theorem Fr.drew {S : Nat → Prop} {a b : World} (h : Fr S a b) : Fr S a b.drew := ⟨h.os, h.tape, h.output, h.size, h.block⟩
theorem Fr.drewN {S : Nat → Prop} {a b : World} (h : Fr S a b) (n : Nat) : Fr S a (b.drewN n) := ⟨h.os, h.tape, h.output, h.size, h.block⟩
theorem Fr.alloc {S : Nat → Prop} {a b : World} (h : Fr S a b) (o : Obj) : Fr S a (b.alloc o) :=
  h.trans (T := Nob) ⟨rfl, rfl, rfl, by simp, fun k hk _ => Below.heap_alloc b o k hk⟩ (fun _ _ t => t.elim)
theorem Fr.setCell {S : Nat → Prop} {a b : World} (h : Fr S a b) (g i : Nat) (s : Option Nat) (u : Value) (hg : g < a.heap.size → S g) : Fr S a (b.setCell ⟨g, i, s⟩ u) :=
  h.trans (T := One g) ⟨rfl, rfl, rfl, by simp [World.setCell], fun k _ hk => heap_setCell_other b _ k u hk⟩ (fun i hi t => by have e : i = g := t; subst e; exact hg hi)
theorem Fr.below {a b : World} (h : Fr Nob a b) : Below a.heap.size a b := ⟨h.os, h.tape, h.output, h.size, fun k hk => h.block k hk id⟩
theorem Fr.cell {S : Nat → Prop} {a b : World} (h : Fr S a b) {g i : Nat} {v : Value} (hs : ¬ S g) (hc : a.cell? ⟨g, i, none⟩ = some v) : b.cell? ⟨g, i, none⟩ = some v :=
  (World.cell?_of_block (a := ⟨g, i, none⟩) (h.block g (block_lt_of_cell hc) hs)).trans hc

/-- block g holds just the cells L, of type T, and all of them may be written -/
def Has (w : World) (g : Nat) (L : List Value) (T : TypeId) : Prop := ∃ lo hi, w.heap[g]? = some (.cells L.toArray T (lo, hi)) ∧ (lo = hi ∨ L.length ≤ lo)

theorem Has.lt {w : World} {g : Nat} {L : List Value} {T : TypeId} (h : Has w g L T) : g < w.heap.size := by
  obtain ⟨lo, hi, h, -⟩ := h
  rcases Nat.lt_or_ge g w.heap.size with k | k
  · exact k
  · simp [Array.getElem?_eq_none k] at h
theorem Has.get {w : World} {g : Nat} {L : List Value} {T : TypeId} (h : Has w g L T) (i : Nat) : w.cell? ⟨g, i, none⟩ = L[i]? := by
  obtain ⟨lo, hi, h, -⟩ := h
  rw [cell_of_row w g i _ T _ h]; simp
theorem Has.cell {w : World} {g : Nat} {L : List Value} {T : TypeId} (h : Has w g L T) {i : Nat} {v : Value} (hv : L[i]? = some v) : w.cell? ⟨g, i, none⟩ = some v := (h.get i).trans hv
theorem Has.free {w : World} {g : Nat} {L : List Value} {T : TypeId} (h : Has w g L T) (i : Nat) (hi : i < L.length) : w.frozen? ⟨g, i, none⟩ = false := by
  obtain ⟨lo, hi', h, k⟩ := h
  simp only [World.frozen?, h]
  rcases k with rfl | k
  · simp <;> omega
  · simp <;> omega
/-- a cell that may be written -/
theorem Has.ready {w : World} {g : Nat} {L : List Value} {T : TypeId} (h : Has w g L T) {i : Nat} (hi : i < L.length) : ∃ v, w.cell? ⟨g, i, none⟩ = some v ∧ w.frozen? ⟨g, i, none⟩ = false :=
  ⟨L[i], h.cell (List.getElem?_eq_getElem hi), h.free i hi⟩
theorem Has.keep {S : Nat → Prop} {w w' : World} {g : Nat} {L : List Value} {T : TypeId} (h : Has w g L T) (hf : Fr S w w') (hs : ¬ S g) : Has w' g L T := by
  have hl := h.lt
  obtain ⟨lo, hi, h, k⟩ := h
  exact ⟨lo, hi, (hf.block g hl hs).trans h, k⟩
theorem Has.set {w : World} {g : Nat} {L : List Value} {T : TypeId} (h : Has w g L T) (i : Nat) (v : Value) : Has (w.setCell ⟨g, i, none⟩ v) g (L.set i v) T := by
  have hl := h.lt
  obtain ⟨lo, hi, h, k⟩ := h
  refine ⟨lo, hi, ?_, by simpa using k⟩
  simp only [World.setCell, Array.getElem?_modify, if_true]
  simp [h]
theorem Has.other {w : World} {g g' : Nat} {L : List Value} {T : TypeId} (h : Has w g L T) (i : Nat) (s : Option Nat) (v : Value) (hn : g ≠ g') : Has (w.setCell ⟨g', i, s⟩ v) g L T := by
  obtain ⟨lo, hi, h, k⟩ := h
  exact ⟨lo, hi, (heap_setCell_other w ⟨g', i, s⟩ g v hn).trans h, k⟩
theorem Has.new (w : World) (L : Array Value) (T : TypeId) : Has (w.alloc (.cells L T)) w.heap.size L.toList T :=
  ⟨0, 0, by have := heap_alloc_new w (.cells L T); simpa using this, .inl rfl⟩
theorem Has.alloc {w : World} {g : Nat} {L : List Value} {T : TypeId} (h : Has w g L T) (o : Obj) : Has (w.alloc o) g L T := by
  have hl := h.lt
  obtain ⟨lo, hi, h, k⟩ := h
  exact ⟨lo, hi, (Below.heap_alloc w o g hl).trans h, k⟩
theorem Has.drew {w : World} {g : Nat} {L : List Value} {T : TypeId} (h : Has w g L T) : Has w.drew g L T := h
theorem Has.drewN {w : World} {g : Nat} {L : List Value} {T : TypeId} (h : Has w g L T) (n : Nat) : Has (w.drewN n) g L T := h

/-- the cells vs lie in block b from place o on -/
def At (w : World) (b o : Nat) (vs : List Value) : Prop := ∀ i v, vs[i]? = some v → w.cell? ⟨b, o + i, none⟩ = some v
/-- n cells at a read as vs (where there is none: whatever a) -/
def Rd (w : World) (a : Option Addr) (n : Nat) (vs : List Value) : Prop := vs.length = n ∧ (n = 0 ∨ ∃ b o, a = some ⟨b, o, none⟩ ∧ At w b o vs)
/-- the block of a, if it has one, is not in S -/
def Off (S : Nat → Prop) (a : Option Addr) : Prop := ∀ x, a = some x → ¬ S x.block

theorem Off.nob (a : Option Addr) : Off Nob a := fun _ _ h => h
theorem At.keep {S : Nat → Prop} {w w' : World} {b o : Nat} {vs : List Value} (h : At w b o vs) (hf : Fr S w w') (hs : ¬ S b) : At w' b o vs :=
  fun i v hv => hf.cell hs (h i v hv)
theorem Rd.keep {S : Nat → Prop} {w w' : World} {a : Option Addr} {n : Nat} {vs : List Value} (h : Rd w a n vs) (hf : Fr S w w') (hs : Off S a) : Rd w' a n vs := by
  refine ⟨h.1, h.2.imp id ?_⟩
  rintro ⟨b, o, rfl, ha⟩
  exact ⟨b, o, rfl, ha.keep hf (hs _ rfl)⟩
theorem Rd.still {w w' : World} {a : Option Addr} {n : Nat} {vs : List Value} (h : Rd w a n vs) (hf : Fr Nob w w') : Rd w' a n vs := h.keep hf (Off.nob a)
theorem Rd.nil (w : World) (a : Option Addr) : Rd w a 0 [] := ⟨rfl, .inl rfl⟩
theorem Rd.len {w : World} {a : Option Addr} {n : Nat} {vs : List Value} (h : Rd w a n vs) : vs.length = n := h.1
theorem Rd.at {w : World} {a : Option Addr} {n : Nat} {vs : List Value} (h : Rd w a n vs) (hn : 0 < n) : ∃ b o, a = some ⟨b, o, none⟩ ∧ At w b o vs := h.2.resolve_left (by omega)
theorem Rd.ofHas {w : World} {g n : Nat} {L : List Value} {T : TypeId} (h : Has w g L T) (o : Nat) (hn : o + n ≤ L.length) : Rd w (some ⟨g, o, none⟩) n ((L.drop o).take n) := by
  refine ⟨by simp; omega, .inr ⟨g, o, rfl, fun i v hv => ?_⟩⟩
  rw [h.get]
  rw [List.getElem?_take] at hv
  split at hv
  · simpa using hv
  · cases hv
theorem Rd.whole {w : World} {g : Nat} {L : List Value} {T : TypeId} (h : Has w g L T) : Rd w (some ⟨g, 0, none⟩) L.length L := by
  simpa using Rd.ofHas h 0 (n := L.length) (by simp)
theorem At.cell {w : World} {b o : Nat} {vs : List Value} (h : At w b o vs) {i : Nat} (hi : i < vs.length) : w.cell? ⟨b, o + i, none⟩ = some (vs.getD i undef) :=
  h i _ (by simp [List.getD_eq_getElem?_getD, List.getElem?_eq_getElem hi])
/-- a piece of a slice -/
theorem At.sub {w : World} {b o : Nat} {vs : List Value} (h : At w b o vs) (k n : Nat) : At w b (o + k) ((vs.drop k).take n) := by
  intro i v hv
  rw [Nat.add_assoc]
  refine h (k + i) v ?_
  rw [List.getElem?_take] at hv
  split at hv
  · simpa using hv
  · cases hv

/-- bytes, as cells -/
def bs (l : List UInt8) : List Value := l.map fun x => .int .u8 (x.toNat : Int)
theorem length_bs (l : List UInt8) : (bs l).length = l.length := by simp [bs]
theorem bs_append (l m : List UInt8) : bs (l ++ m) = bs l ++ bs m := by simp [bs]
theorem bs_take (l : List UInt8) (n : Nat) : (bs l).take n = bs (l.take n) := by simp [bs]
theorem bs_drop (l : List UInt8) (n : Nat) : (bs l).drop n = bs (l.drop n) := by simp [bs]
theorem bs_get (l : List UInt8) (i : Nat) (hi : i < l.length) : (bs l)[i]? = some (.int .u8 ((l.getD i 0).toNat : Int)) := by
  simp [bs, List.getElem?_eq_getElem hi, List.getD_eq_getElem?_getD]
theorem bs_set (l : List UInt8) (i : Nat) (x : UInt8) : (bs l).set i (.int .u8 (x.toNat : Int)) = bs (l.set i x) := by simp [bs]
theorem bs_one (l : List UInt8) : ∀ v ∈ bs l, v.oneCell' = true := by intro v hv; simp [bs] at hv; obtain ⟨x, _, rfl⟩ := hv; rfl

/-- a slice of bytes reads as l -/
def RdB (w : World) (a : Option Addr) (n : Nat) (l : List UInt8) : Prop := Rd w a n (bs l)
theorem RdB.len {w : World} {a : Option Addr} {n : Nat} {l : List UInt8} (h : RdB w a n l) : l.length = n := by have := h.1; rwa [length_bs] at this
theorem RdB.at {w : World} {a : Option Addr} {n : Nat} {l : List UInt8} (h : RdB w a n l) (hn : 0 < n) : ∃ b o, a = some ⟨b, o, none⟩ ∧ ∀ i, i < n → w.cell? ⟨b, o + i, none⟩ = some (.int .u8 ((l.getD i 0).toNat : Int)) := by
  obtain ⟨b, o, ha, hc⟩ := Rd.at h hn
  exact ⟨b, o, ha, fun i hi => hc i _ (bs_get l i (by rw [h.len]; exact hi))⟩
theorem RdB.still {w w' : World} {a : Option Addr} {n : Nat} {l : List UInt8} (h : RdB w a n l) (hf : Fr Nob w w') : RdB w' a n l := Rd.still h hf
theorem RdB.keep {S : Nat → Prop} {w w' : World} {a : Option Addr} {n : Nat} {l : List UInt8} (h : RdB w a n l) (hf : Fr S w w') (hs : Off S a) : RdB w' a n l := Rd.keep h hf hs
theorem RdB.nil (w : World) (a : Option Addr) : RdB w a 0 [] := Rd.nil w a
/-- ints, as cells -/
def is (l : List Nat) : List Value := l.map fun (x : Nat) => .int .i64 (x : Int)
end Go.Mv

/- Laws of the walk for make, copy, append and conversions, over the words of Mem. Nothing here knows of a program. -/
namespace Go.Mv
open Go.RowKit
variable {P : Program}

theorem addr_add (g o i : Nat) : (⟨g, o, none⟩ : Addr).add i = ⟨g, o + i, none⟩ := by unfold Addr.add; split <;> simp_all

theorem splice_nil (L : List Value) (o : Nat) : splice L o [] = L := by simp [splice]
theorem splice_cons (L : List Value) (o : Nat) (v : Value) (vs : List Value) (h : o < L.length) : splice (L.set o v) (o + 1) vs = splice L o (v :: vs) := by
  unfold splice
  have e1 : (L.set o v).take (o + 1) = L.take o ++ [v] := by
    rw [List.take_set, List.take_succ_eq_append_getElem h, List.set_append_right _ _ (by simp; omega), List.length_take, Nat.min_eq_left (Nat.le_of_lt h), Nat.sub_self]
    rfl
  have e2 : (L.set o v).drop (o + 1 + vs.length) = L.drop (o + 1 + vs.length) := by rw [List.drop_set, if_pos (by omega)]
  rw [e1, e2]
  simp [Nat.add_comm, Nat.add_left_comm]

theorem run_store_has {w : World} {g : Nat} {L : List Value} {T : TypeId} (h : Has w g L T) (i : Nat) (hi : i < L.length) (v : Value) (hv : v.oneCell' = true) :
    (store ⟨g, i, none⟩ v).run P w = .ok () (w.setCell ⟨g, i, none⟩ v) := by
  rw [run_store P w _ v _ hv, h.cell (List.getElem?_eq_getElem hi)]
  simp [h.free i hi]

theorem run_storeCells_has (g o : Nat) (T : TypeId) : ∀ (vs : List Value) (i : Nat) (L : List Value) (w : World), Has w g L T → o + i + vs.length ≤ L.length → (∀ v ∈ vs, v.oneCell' = true) →
    ∃ w', (storeCells ⟨g, o, none⟩ vs i).run P w = .ok () w' ∧ Has w' g (splice L (o + i) vs) T ∧ Fr (One g) w w' ∧ w'.heap.size = w.heap.size
  | [], i, L, w, h, _, _ => ⟨w, rfl, by rw [splice_nil]; exact h, Fr.refl _ _, rfl⟩
  | v :: vs, i, L, w, h, hl, h1 => by
    have hi : o + i < L.length := by simp at hl; omega
    obtain ⟨w', hr, hh, hf, hz⟩ := run_storeCells_has g o T vs (i + 1) (L.set (o + i) v) (w.setCell ⟨g, o + i, none⟩ v) (h.set _ _) (by simp at hl ⊢; omega) (fun x hx => h1 x (by simp [hx]))
    refine ⟨w', ?_, ?_, ?_, ?_⟩
    · simp only [storeCells, Sem.run_bind, addr_add, run_store_has h (o + i) hi v (h1 v (by simp)), Result.andThen_ok, hr]
    · rw [← splice_cons L (o + i) v vs hi]; exact hh
    · exact ((Fr.refl (One g) w).setCell g (o + i) none v (fun _ => rfl)).trans hf (fun _ _ t => t)
    · rw [hz]; simp [World.setCell]

theorem At.add {w : World} {b o : Nat} {vs : List Value} (h : At w b o vs) : ∀ j u, vs[j]? = some u → w.cell? ((⟨b, o, none⟩ : Addr).add j) = some u := fun j u hu => by
  rw [addr_add]; exact h j u hu

/-- the first cells of a slice that reads as vs -/
theorem run_firstCells_rd {w : World} {a : Option Addr} {vs : List Value} (size n m c : Nat) (h : At w (a.getD ⟨0, 0, none⟩).block (a.getD ⟨0, 0, none⟩).off (vs.take (n * size)) ∨ n * size = 0) (ha : 0 < n * size → ∃ b o, a = some ⟨b, o, none⟩) (hl : n * size ≤ vs.length) :
    (Builtin.firstCells size n (.slice a m c)).run P w = .ok (vs.take (n * size)).toArray w := by
  rcases Nat.eq_zero_or_pos (n * size) with h0 | h0
  · rw [h0]
    cases a with
    | none => simp [Builtin.firstCells]
    | some ad => simp [Builtin.firstCells, h0, loadCells, loadCellsFrom]
  · obtain ⟨b, o, rfl⟩ := ha h0
    have h := h.resolve_right (by omega)
    exact run_firstCells_some (P := P) w size n ⟨b, o, none⟩ m c (vs.take (n * size)) (by simp; omega) h.add

theorem run_firstCells_Rd {w : World} {a : Option Addr} {k : Nat} {vs : List Value} (h : Rd w a k vs) (size n m c : Nat) (hl : n * size ≤ k) :
    (Builtin.firstCells size n (.slice a m c)).run P w = .ok (vs.take (n * size)).toArray w := by
  refine run_firstCells_rd size n m c ?_ ?_ (by rw [h.len]; exact hl)
  · rcases Nat.eq_zero_or_pos (n * size) with h0 | h0
    · exact .inr h0
    · obtain ⟨b, o, rfl, hc⟩ := h.at (by omega)
      refine .inl fun i v hv => hc i v ?_
      rw [List.getElem?_take] at hv
      split at hv
      · exact hv
      · cases hv
  · intro h0
    obtain ⟨b, o, rfl, _⟩ := h.at (by omega)
    exact ⟨b, o, rfl⟩

/-- a slice that the call owns: nil, or n elements (sz cells each) from place o on in a block from base on, which is known whole as far as the capacity goes -/
def Own (w : World) (base : Nat) (T : TypeId) (sz : Nat) (v : Value) (n : Nat) (L : List Value) : Prop :=
  L.length = n * sz ∧ ((v = .slice none 0 0 ∧ n = 0) ∨
    ∃ g o cap B, v = .slice (some ⟨g, o, none⟩) n cap ∧ base ≤ g ∧ Has w g B T ∧ n ≤ cap ∧ cap ≤ maxLen ∧ o + cap * sz ≤ B.length ∧ (B.drop o).take (n * sz) = L)
/-- the block of an owned slice -/
def OwnB (v : Value) : Nat → Prop := fun k => v.ownBlock = some k

theorem Own.nil (w : World) (base : Nat) (T : TypeId) (sz : Nat) : Own w base T sz (.slice none 0 0) 0 [] := ⟨by simp, .inl ⟨rfl, rfl⟩⟩
theorem Own.lt {w : World} {base : Nat} {T : TypeId} {sz : Nat} {v : Value} {n : Nat} {L : List Value} (h : Own w base T sz v n L) {k : Nat} (hk : OwnB v k) : base ≤ k ∧ k < w.heap.size := by
  rcases h.2 with ⟨rfl, _⟩ | ⟨g, o, cap, B, rfl, hb, hh, _⟩
  · cases hk
  · have : g = k := by simpa [OwnB, Value.ownBlock] using hk
    subst this
    exact ⟨hb, hh.lt⟩
theorem Own.keep {S : Nat → Prop} {w w' : World} {base : Nat} {T : TypeId} {sz : Nat} {v : Value} {n : Nat} {L : List Value} (h : Own w base T sz v n L) (hf : Fr S w w') (hs : ∀ k, OwnB v k → ¬ S k) : Own w' base T sz v n L := by
  refine ⟨h.1, h.2.imp id ?_⟩
  rintro ⟨g, o, cap, B, rfl, hb, hh, r⟩
  exact ⟨g, o, cap, B, rfl, hb, hh.keep hf (hs g rfl), r⟩
theorem Own.still {w w' : World} {base : Nat} {T : TypeId} {sz : Nat} {v : Value} {n : Nat} {L : List Value} (h : Own w base T sz v n L) (hf : Fr Nob w w') : Own w' base T sz v n L := h.keep hf (fun _ _ t => t)
theorem Own.mono {w : World} {base base' : Nat} {T : TypeId} {sz : Nat} {v : Value} {n : Nat} {L : List Value} (h : Own w base T sz v n L) (hb : base' ≤ base) : Own w base' T sz v n L := by
  refine ⟨h.1, h.2.imp id ?_⟩
  rintro ⟨g, o, cap, B, rfl, hb', r⟩
  exact ⟨g, o, cap, B, rfl, Nat.le_trans hb hb', r⟩
theorem Own.form {w : World} {base : Nat} {T : TypeId} {sz : Nat} {v : Value} {n : Nat} {L : List Value} (h : Own w base T sz v n L) : ∃ a cap, v = .slice a n cap ∧ n ≤ cap ∧ Rd w a (n * sz) L ∧ (∀ x, a = some x → base ≤ x.block) := by
  rcases h.2 with ⟨rfl, rfl⟩ | ⟨g, o, cap, B, rfl, hb, hh, hn, hm, hl, ht⟩
  · refine ⟨none, 0, rfl, Nat.le_refl _, ⟨by simpa using h.1, .inl (by simp)⟩, by simp⟩
  · have hle : n * sz ≤ cap * sz := Nat.mul_le_mul_right _ hn
    refine ⟨_, cap, rfl, hn, ?_, by simpa using hb⟩
    rw [← ht]
    exact Rd.ofHas hh o (by omega)
theorem Own.made {w : World} {g : Nat} {T : TypeId} {B : List Value} (h : Has w g B T) (base : Nat) (hb : base ≤ g) (sz n cap : Nat) (hn : n ≤ cap) (hm : cap ≤ maxLen) (hl : cap * sz ≤ B.length) :
    Own w base T sz (.slice (some ⟨g, 0, none⟩) n cap) n (B.take (n * sz)) := by
  have hle : n * sz ≤ cap * sz := Nat.mul_le_mul_right _ hn
  exact ⟨by simp; omega, .inr ⟨g, 0, cap, B, rfl, hb, h, hn, hm, by omega, by simp⟩⟩
/-- behind a step that wrote to an owned block alone -/
theorem Own.fr {S : Nat → Prop} {w0 w w' : World} {base : Nat} {T : TypeId} {sz : Nat} {v : Value} {n : Nat} {L : List Value} (h : Own w base T sz v n L) (hf : Fr S w0 w) (hb : w0.heap.size ≤ base) (k : Fr (OwnB v) w w') : Fr S w0 w' :=
  hf.trans k (fun _ hi t => by have := (h.lt t).1; omega)

theorem splice_length (L : List Value) (o : Nat) (vs : List Value) (h : o + vs.length ≤ L.length) : (splice L o vs).length = L.length := length_splice L o vs h
theorem splice_take (L : List Value) (o k : Nat) (vs : List Value) (h : o + k + vs.length ≤ L.length) : ((splice L (o + k) vs).drop o).take (k + vs.length) = (L.drop o).take k ++ vs := by
  unfold splice
  have h1 : (L.take (o + k)).drop o = (L.drop o).take k := by rw [List.drop_take]; congr 1; omega
  rw [List.drop_append_of_le_length (by simp; omega), h1]
  rw [← List.append_assoc]
  exact List.take_left' (by simp; omega)

theorem run_append_room2 {w : World} (t ty e : TypeId) (i : TypeInfo) (ht : P.underlying t = some (.slice e)) (hi : P.info? e = some i)
    (g o sLen sCap : Nat) (B : List Value) (T : TypeId) (hg : Has w g B T) (a : Option Addr) (m c : Nat) (news : List Value) (hnews : Rd w a (m * i.size) news) (h1 : ∀ u ∈ news, u.oneCell' = true)
    (hroom : sLen + m ≤ sCap) (hfit : o + sLen * i.size + news.length ≤ B.length) :
    ∃ w', (Builtin.append_ #[t, t] ty #[.slice (some ⟨g, o, none⟩) sLen sCap, .slice a m c]).run P w = .ok (.slice (some ⟨g, o, none⟩) (sLen + m) sCap) w' ∧
      Has w' g (splice B (o + sLen * i.size) news) T ∧ Fr (One g) w w' ∧ w'.heap.size = w.heap.size := by
  have hf := run_firstCells_Rd (P := P) hnews i.size m m c (Nat.le_refl _)
  rw [List.take_of_length_le (by rw [hnews.len]; exact Nat.le_refl _)] at hf
  obtain ⟨w', hst, hh, hfr, hz⟩ := run_storeCells_has (P := P) g (o + sLen * i.size) T news 0 B w hg (by omega) h1
  simp only [Nat.add_zero] at hh
  refine ⟨w', ?_, hh, hfr, hz⟩
  simp [Builtin.append_, run_underlying ht, sizeOf, typeInfo, hi, Builtin.lenOf, hroom, hf, addr_add, hst]

theorem run_append_zero {w : World} (t ty e : TypeId) (i : TypeInfo) (ht : P.underlying t = some (.slice e)) (hi : P.info? e = some i) (s : Option Addr) (sLen sCap : Nat) (hl : sLen ≤ sCap) (a : Option Addr) (c : Nat) :
    (Builtin.append_ #[t, t] ty #[.slice s sLen sCap, .slice a 0 c]).run P w = .ok (.slice s sLen sCap) w := by
  have hf : (Builtin.firstCells i.size 0 (.slice a 0 c)).run P w = .ok #[] w := by
    cases a <;> simp [Builtin.firstCells, loadCells, loadCellsFrom]
  cases s <;> simp [Builtin.append_, run_underlying ht, sizeOf, typeInfo, hi, Builtin.lenOf, hl, hf, storeCells]

theorem run_append2 {w : World} (base : Nat) (t ty e : TypeId) (z : Value) (sz by_ : Nat) (ht : P.underlying t = some (.slice e)) (hi0 : (P.info? e).map (fun i => (i.zero, i.size, i.bytes)) = some (some z, sz, by_))
    (hzs : z.cells.size = sz) (hsz : 0 < sz)
    (v : Value) (n : Nat) (L : List Value) (hown : Own w base e sz v n L)
    (a : Option Addr) (m c : Nat) (news : List Value) (hnews : Rd w a (m * sz) news) (h1 : ∀ u ∈ news, u.oneCell' = true)
    (h63 : n + m ≤ maxLen) (hbytes : (n + m) * by_ ≤ 140737488355328) (hbase : base ≤ w.heap.size) :
    ∃ v' w', (Builtin.append_ #[t, t] ty #[v, .slice a m c]).run P w = .ok v' w' ∧ Own w' base e sz v' (n + m) (L ++ news) ∧ Fr (OwnB v) w w' ∧
      (v'.ownBlock = v.ownBlock ∨ v'.ownBlock = some w.heap.size) := by
  obtain ⟨i, hi, hz, hsize, hby⟩ := info_parts hi0
  subst hsize
  subst hby
  rcases Nat.eq_zero_or_pos m with rfl | hm
  · obtain ⟨s, cap, rfl, hc, -, -⟩ := hown.form
    have hn : news = [] := List.eq_nil_of_length_eq_zero (by rw [hnews.len]; simp)
    subst hn
    exact ⟨_, w, run_append_zero t ty e i ht hi s n cap hc a c, by simpa using hown, Fr.refl _ _, .inl rfl⟩
  have hms : 0 < m * i.size := Nat.mul_pos hm hsz
  obtain ⟨b, o', rfl, hat⟩ := hnews.at hms
  have hlen : (L ++ news).length = (n + m) * i.size := by rw [List.length_append, hown.1, hnews.len, Nat.add_mul]
  have hsmall : n + m ≤ 9223372036854775807 := by simp only [maxLen] at h63; omega
  have grown : ∀ (old : Nat), old < n + m →
      Own (w.drew.alloc (.cells (L.toArray ++ news.toArray ++ Builtin.zeroCells z.cells (grownCap w (n + m) old e - (n + m))) e)) base e i.size
        (.slice (some ⟨w.heap.size, 0, none⟩) (n + m) (grownCap w (n + m) old e)) (n + m) (L ++ news) ∧
      Fr (OwnB v) w (w.drew.alloc (.cells (L.toArray ++ news.toArray ++ Builtin.zeroCells z.cells (grownCap w (n + m) old e - (n + m))) e)) := by
    intro old ho
    have hge := grownCap_ge w (n + m) old e
    have hcm : grownCap w (n + m) old e ≤ maxLen := grownCap_le_maxLen w (n + m) old e h63
    have hz' : (Builtin.zeroCells z.cells (grownCap w (n + m) old e - (n + m))).size = (grownCap w (n + m) old e - (n + m)) * i.size := by simp [size_zeroCells, hzs]
    have hmul : (n + m) * i.size + (grownCap w (n + m) old e - (n + m)) * i.size = grownCap w (n + m) old e * i.size := by rw [← Nat.add_mul]; congr 1; omega
    refine ⟨⟨hlen, .inr ⟨w.heap.size, 0, _, _, rfl, hbase, Has.new w.drew _ e, hge, hcm, ?_, ?_⟩⟩, ((Fr.refl _ w).drew).alloc _⟩
    · rw [List.length_append] at hlen
      simp only [Array.toList_append, List.length_append, Array.length_toList, hz', Nat.zero_add]
      omega
    · simp only [Array.toList_append, List.drop_zero]
      rw [← hlen]
      exact List.take_left
  rcases hown.2 with ⟨rfl, rfl⟩ | ⟨g, o, cap, B, rfl, hbg, hg, hnc, hcm, hl, htake⟩
  · have hx : L = [] := List.eq_nil_of_length_eq_zero (by simpa using hown.1)
    subst hx
    have hr := run_append_nil (P := P) w t ty e i z ht hi hz ⟨b, o', none⟩ m c news hnews.len hat.add hm (by omega) (by have hb := hbytes; simp only [Nat.zero_add] at hb; omega)
    have hgr := grown 0 (by omega)
    simp only [Nat.zero_add, List.nil_append, Array.empty_append] at hgr ⊢
    exact ⟨_, _, hr, hgr.1, hgr.2, .inr rfl⟩
  · by_cases hroom : n + m ≤ cap
    · have hle : (n + m) * i.size ≤ cap * i.size := Nat.mul_le_mul_right _ hroom
      have hnl := hnews.len
      have hfit : o + n * i.size + news.length ≤ B.length := by rw [Nat.add_mul] at hle; omega
      obtain ⟨w', hr, hh, hf, hzz⟩ := run_append_room2 (P := P) t ty e i ht hi g o n cap B e hg _ m c news hnews h1 hroom hfit
      refine ⟨_, _, hr, ⟨hlen, .inr ⟨g, o, cap, _, rfl, hbg, hh, hroom, hcm, ?_, ?_⟩⟩, hf.mono (fun k _ t => by have e : k = g := t; subst e; rfl), .inl rfl⟩
      · rw [splice_length _ _ _ hfit]; exact hl
      · have := splice_take B o (n * i.size) news hfit
        rw [htake] at this
        rw [← this, hnl, Nat.add_mul]
    · have hle : n * i.size ≤ cap * i.size := Nat.mul_le_mul_right _ hnc
      have hrd : Rd w (some ⟨g, o, none⟩) (n * i.size) L := by rw [← htake]; exact Rd.ofHas hg o (by omega)
      have holds : ∀ j u, L[j]? = some u → w.cell? ((⟨g, o, none⟩ : Addr).add j) = some u := by
        rcases Nat.eq_zero_or_pos (n * i.size) with h0 | h0
        · have : L = [] := List.eq_nil_of_length_eq_zero (by rw [hown.1, h0])
          subst this; intro j u hu; simp at hu
        · obtain ⟨b2, o2, he, hc2⟩ := hrd.at h0
          simp only [Option.some.injEq, Addr.mk.injEq] at he
          obtain ⟨rfl, rfl, -⟩ := he
          exact hc2.add
      have hr := run_append_grow (P := P) w t ty e i z ht hi hz ⟨g, o, none⟩ n cap L hown.1 holds ⟨b, o', none⟩ m c news hnews.len hat.add (by omega) (by omega) (growslice_fits (by omega) hbytes)
      have hgr := grown cap (by omega)
      exact ⟨_, _, hr, hgr.1, hgr.2, .inr rfl⟩

/-- the bytes of a string, as cells -/
theorem bs_data (s : ByteArray) : bs s.data.toList = (s.data.map fun b => Value.int .u8 b.toNat).toList := by simp [bs]
theorem bs_arr (s : ByteArray) : (s.data.map fun b => Value.int .u8 b.toNat) = (bs s.data.toList).toArray := by apply Array.ext'; simp [bs]
theorem bs_len (s : ByteArray) : (bs s.data.toList).length = s.size := by simp [bs]

section
variable {w : World} {ops : Array Oper} {rest : List Oper} {o : Oper} {a : Act} {Q : Exit → Act → World → Prop}

/-- append(s, x...), x a slice -/
theorem wl_append {s x : Operand} {t : TypeId} (hgd : o.guard = none) (ho : o.op = .call { callee := .builtin .append, args := #[s, x], argTypes := #[t, t] })
    {e : TypeId} {z : Value} {sz by_ : Nat} (ht : P.underlying t = some (.slice e)) (hi0 : (P.info? e).map (fun i => (i.zero, i.size, i.bytes)) = some (some z, sz, by_))
    (hzs : z.cells.size = sz) (hsz : 0 < sz)
    {v : Value} {n base : Nat} {L : List Value} (hown : Own w base e sz v n L) (hs : a.eval s = v)
    {xa : Option Addr} {m c : Nat} {news : List Value} (hx : a.eval x = .slice xa m c) (hnews : Rd w xa (m * sz) news) (h1 : ∀ u ∈ news, u.oneCell' = true)
    (h63 : n + m ≤ maxLen) (hbytes : (n + m) * by_ ≤ 140737488355328) (hbase : base ≤ w.heap.size)
    (h : ∀ v' w', Own w' base e sz v' (n + m) (L ++ news) → Fr (OwnB v) w w' → (v'.ownBlock = v.ownBlock ∨ v'.ownBlock = some w.heap.size) → wpList P ops Q rest (a.put o.dst v') w') : wpList P ops Q (o :: rest) a w := by
  refine wpList_plain hgd fun K hK => ?_
  obtain ⟨v', w', hr, h2, h3, h4⟩ := run_append2 (P := P) base t o.type e z sz by_ ht hi0 hzs hsz v n L hown xa m c news hnews h1 h63 hbytes hbase
  unfold Oper.wp execOp
  simp only [ho, resolve, invoke, builtin, Sem.run_bind, Sem.run_pure, Result.andThen_ok, List.map_toArray, List.map_cons, List.map_nil, hs, hx, hr]
  exact hK _ _ (h v' w' h2 h3 h4)

theorem madeCells_one (z : Value) (hz : z.cells = #[z]) (n : Nat) : (madeCells z.cells n).toList = List.replicate n z := by rw [hz]; exact toList_madeCells_one z n

/-- make([]T, n), T of one cell -/
theorem wl_make {l c : Operand} {t : TypeId} (hgd : o.guard = none) (ho : o.op = .makeSlice t l c) {e : TypeId} {z : Value} {by_ : Nat} (ht : P.underlying t = some (.slice e))
    (hi0 : (P.info? e).map (fun i => (i.zero, i.size, i.bytes)) = some (some z, 1, by_)) (hzc : z.cells = #[z]) {kl kc : IntKind} {x y : Int} (hl : a.eval l = .int kl x) (hc : a.eval c = .int kc y) (n m : Nat) (hx : x = n) (hy : y = m) (hnm : n ≤ m)
    (hb : by_ * m ≤ 281474976710656) (h63 : m ≤ maxLen)
    (h : ∀ w', Has w' w.heap.size (List.replicate m z) e → Fr Nob w w' → w'.heap.size = w.heap.size + 1 → wpList P ops Q rest (a.put o.dst (.slice (some ⟨w.heap.size, 0, none⟩) n m)) w') : wpList P ops Q (o :: rest) a w := by
  refine wpList_plain hgd fun K hK => ?_
  obtain ⟨i, hi, hz, hsize, hby⟩ := info_parts hi0
  subst hx
  subst hy
  have hmx : (m : Int) ≤ 9223372036854775807 := by simp only [maxLen] at h63; omega
  have hbb : (i.bytes : Int) * (m : Int) ≤ 281474976710656 := by
    have k : ((i.bytes * m : Nat) : Int) ≤ 281474976710656 := by rw [hby]; omega
    rwa [Int.natCast_mul] at k
  have hr := run_make (P := P) w t e i z ht hi hz kl kc n m (by omega) (by omega) hbb hmx
  simp only [Int.toNat_natCast, hsize, Nat.mul_one] at hr
  unfold Oper.wp execOp
  simp only [ho, hl, hc, Sem.run_bind, Sem.run_pure, Result.andThen_ok, hr]
  refine hK _ _ (h _ ?_ ((Fr.refl _ w).alloc _) (by simp))
  have := Has.new w (madeCells z.cells m) e
  rwa [madeCells_one z hzc] at this

/-- copy(d, s), d in a block that is known, s a string -/
theorem wl_copy_str {d s : Operand} {t u : TypeId} (hgd : o.guard = none) (ho : o.op = .call { callee := .builtin .copy, args := #[d, s], argTypes := #[t, u] }) {e : TypeId} (ht : P.underlying t = some (.slice e)) (hsz : (P.info? e).map (·.size) = some 1)
    {g off dn dc : Nat} (hd : a.eval d = .slice (some ⟨g, off, none⟩) dn dc) {q : ByteArray} (hs : a.eval s = .string q) {B : List Value} {T : TypeId} (hg : Has w g B T) (hq : q.size ≤ dn)
    (hfit : off + q.size ≤ B.length)
    (h : ∀ w', Has w' g (splice B off (bs q.data.toList)) T → Fr (One g) w w' → w'.heap.size = w.heap.size → wpList P ops Q rest (a.put o.dst (.int .i64 (q.size : Nat))) w') : wpList P ops Q (o :: rest) a w := by
  refine wpList_plain hgd fun K hK => ?_
  obtain ⟨i, hi, hi1⟩ : ∃ i, P.info? e = some i ∧ i.size = 1 := by simpa using hsz
  have htk : (bs q.data.toList).take q.size = bs q.data.toList := List.take_of_length_le (by rw [bs_len]; exact Nat.le_refl _)
  have hmin : Nat.min q.size dn = q.size := Nat.min_eq_left hq
  obtain ⟨w', hst, hh, hf, hz⟩ := run_storeCells_has (P := P) g off T (bs q.data.toList) 0 B w hg (by rw [bs_len]; omega) (bs_one _)
  simp only [Nat.add_zero] at hh
  have hr : (Builtin.copy_ #[t, u] o.type #[.slice (some ⟨g, off, none⟩) dn dc, .string q]).run P w = .ok (.int .i64 (q.size : Nat)) w' := by
    simp [Builtin.copy_, run_underlying ht, sizeOf, typeInfo, hi, Builtin.lenOf, Builtin.firstCells, bs_arr, htk, hst, goInt, hmin]
  unfold Oper.wp execOp
  simp only [ho, resolve, invoke, builtin, Sem.run_bind, Sem.run_pure, Result.andThen_ok, List.map_toArray, List.map_cons, List.map_nil, hd, hs, hr]
  exact hK _ _ (h w' hh hf hz)

/-- bytes as a string -/
def mkS (l : List UInt8) : ByteArray := ⟨l.toArray⟩
theorem mkS_data (s : ByteArray) : mkS s.data.toList = s := by simp [mkS]
theorem mkS_size (l : List UInt8) : (mkS l).size = l.length := by simp [mkS, ByteArray.size]
theorem mkS_toList (l : List UInt8) : (mkS l).data.toList = l := by simp [mkS]
theorem run_string {sa : Option Addr} {m : Nat} {l : List UInt8} (hrd : RdB w sa m l) (c : Nat) {src e dst : TypeId} (hs : P.underlying src = some (.slice e)) (he : P.underlying e = some (.int .u8)) (hd : P.underlying dst = some .string) :
    (convert src dst (.slice sa m c)).run P w = .ok (.string (mkS l)) w := by
  have hl := hrd.len
  rcases Nat.eq_zero_or_pos m with h0 | h0
  · subst h0
    obtain rfl : l = [] := List.eq_nil_of_length_eq_zero hl
    cases sa with
    | none => exact run_convert_bytes_nil w src e hs he 0 c dst hd
    | some ad =>
      rw [run_convert_bytes_string w src dst e _ 0 c hs he hd]
      simp [Conv.bytesToString, mkS, loadCells, loadCellsFrom]
      rfl
  · obtain ⟨b, o, rfl, hc⟩ := hrd.at h0
    have := run_convert_bytes_arg (P := P) w src e hs he b o m c (l.map fun x => (x.toNat : Int)) (by simp [hl]) (fun i hi => by
      rw [hc i hi]; simp [List.getD_eq_getElem?_getD, List.getElem?_eq_getElem (show i < l.length by omega)]) dst hd
    rw [this]
    have hid : (l.map ((fun n : Int => UInt8.ofNat n.toNat) ∘ fun x : UInt8 => (x.toNat : Int))) = l := by
      rw [List.map_congr_left (g := id)]
      · simp
      · intro x _; simp
    simp only [strOfNums, List.map_map, hid, mkS]

/-- string(b) -/
theorem wl_string {x : Operand} {src dst : TypeId} (hgd : o.guard = none) (ho : o.op = .convert src dst x) {e : TypeId} (hs : P.underlying src = some (.slice e)) (he : P.underlying e = some (.int .u8)) (hd : P.underlying dst = some .string)
    {sa : Option Addr} {m c : Nat} {l : List UInt8} (hx : a.eval x = .slice sa m c) (hrd : RdB w sa m l) (h : wpList P ops Q rest (a.put o.dst (.string (mkS l))) w) : wpList P ops Q (o :: rest) a w := by
  refine wpList_plain hgd fun K hK => ?_
  have hr := run_string (P := P) hrd c hs he hd
  unfold Oper.wp execOp
  simp only [ho, hx, Sem.run_bind, Sem.run_pure, Result.andThen_ok, hr]
  exact hK _ _ h

/-- []byte(s) -/
theorem wl_bytes {x : Operand} {src dst : TypeId} (hgd : o.guard = none) (ho : o.op = .convert src dst x) {e : TypeId} (hs : P.underlying src = some .string) (hd : P.underlying dst = some (.slice e)) (he : P.underlying e = some (.int .u8))
    {q : ByteArray} (hx : a.eval x = .string q) (hq : q.size ≤ maxLen) (base : Nat) (hb : base ≤ w.heap.size)
    (h : ∀ cap w', Own w' base e 1 (.slice (some ⟨w.heap.size, 0, none⟩) q.size cap) q.size (bs q.data.toList) → Fr Nob w w' → w.heap.size < w'.heap.size → wpList P ops Q rest (a.put o.dst (.slice (some ⟨w.heap.size, 0, none⟩) q.size cap)) w') : wpList P ops Q (o :: rest) a w := by
  refine wpList_plain hgd fun K hK => ?_
  have hr := run_bytes_of_string (P := P) w src dst e q hs hd he
  have hge := grownCap_ge w q.size 0 e
  have hcm := grownCap_le_maxLen w q.size 0 e hq
  unfold Oper.wp execOp
  simp only [ho, hx, Sem.run_bind, Sem.run_pure, Result.andThen_ok, hr]
  refine hK _ _ (h _ _ ⟨by rw [bs_len]; omega, .inr ⟨w.heap.size, 0, _, (bytesRow q (grownCap w q.size 0 e)).toList, rfl, hb, ?_, hge, hcm, ?_, ?_⟩⟩ (((Fr.refl _ w).drew).alloc _) (by simp))
  · refine ⟨(bytesRow q (grownCap w q.size 0 e)).size, (bytesRow q (grownCap w q.size 0 e)).size + 1, ?_, .inr (Nat.le_of_eq ?_)⟩
    · have := heap_alloc_new w.drew (.cells (bytesRow q (grownCap w q.size 0 e)) e ((bytesRow q (grownCap w q.size 0 e)).size, (bytesRow q (grownCap w q.size 0 e)).size + 1))
      simpa using this
    · simp
  · have hd : q.data.size = q.size := rfl
    simp [bytesRow, hd]; omega
  · simp only [bytesRow, Array.toList_append, List.drop_zero, Nat.mul_one]
    rw [← bs_data]
    exact List.take_left' (by rw [bs_len])
end

/-- the walk stands still here -/
def Stop (p : Prop) : Prop := p
theorem wl_stop {w : World} {ops : Array Oper} {rest : List Oper} {o : Oper} {a : Act} {Q : Exit → Act → World → Prop} (h : Stop (wpList P ops Q (o :: rest) a w)) : wpList P ops Q (o :: rest) a w := h

theorem toList_data (s : ByteArray) : s.toList = s.data.toList := by
  have key : ∀ (n i : Nat) (r : List UInt8), s.size - i = n → ByteArray.toList.loop s i r = r.reverse ++ s.data.toList.drop i := by
    intro n
    induction n with
    | zero =>
      intro i r h
      rw [ByteArray.toList.loop, if_neg (by omega), List.drop_eq_nil_of_le (by simp; omega), List.append_nil]
    | succ n ih =>
      intro i r h
      have hi : i < s.size := by omega
      rw [ByteArray.toList.loop, if_pos hi, ih (i + 1) _ (by omega)]
      have hl : i < s.data.toList.length := by simpa using hi
      rw [List.drop_eq_getElem_cons hl]
      have e : s.get! i = s.data.toList[i] := by
        have hd : i < s.data.size := hi
        show s.data[i]! = _
        rw [getElem!_pos s.data i hd]; simp
      rw [e]; simp
  have := key s.size 0 [] (by omega)
  simpa [ByteArray.toList] using this
theorem mkS_list (l : List UInt8) : (mkS l).toList = l := by rw [toList_data, mkS_toList]
theorem beq_mkS (l m : List UInt8) : ((mkS l).toList == (mkS m).toList) = decide (l = m) := by
  rw [mkS_list, mkS_list]
  by_cases h : l = m
  · simp [h]
  · simp [h]
end Go.Mv

/- append onto an owned slice, once more: what lay ahead of the new cells is kept, in the old block too. -/
namespace Go.Mv
open Go.RowKit
variable {P : Program}

/-- all cells of old blocks are as they were, but those of v's block behind its n elements -/
def Kept (v : Value) (n sz : Nat) (w w' : World) : Prop :=
  ∀ b i, b < w.heap.size → (∀ o cap, v = .slice (some ⟨b, o, none⟩) n cap → i < o + n * sz) → w'.cell? ⟨b, i, none⟩ = w.cell? ⟨b, i, none⟩

theorem Kept.refl (v : Value) (n sz : Nat) (w : World) : Kept v n sz w w := fun _ _ _ _ => rfl
theorem Kept.ofFr {v : Value} {n sz : Nat} {w w' : World} (h : Fr Nob w w') : Kept v n sz w w' := fun b _ hb _ => World.cell?_of_block (a := ⟨b, _, none⟩) (h.block b hb id)
theorem run_append3 {w : World} (base : Nat) (t ty e : TypeId) (z : Value) (sz by_ : Nat) (ht : P.underlying t = some (.slice e)) (hi0 : (P.info? e).map (fun i => (i.zero, i.size, i.bytes)) = some (some z, sz, by_))
    (hzs : z.cells.size = sz) (hsz : 0 < sz)
    (v : Value) (n : Nat) (L : List Value) (hown : Own w base e sz v n L)
    (a : Option Addr) (m c : Nat) (news : List Value) (hnews : Rd w a (m * sz) news) (h1 : ∀ u ∈ news, u.oneCell' = true)
    (h63 : n + m ≤ maxLen) (hbytes : (n + m) * by_ ≤ 140737488355328) (hbase : base ≤ w.heap.size) :
    ∃ v' w', (Builtin.append_ #[t, t] ty #[v, .slice a m c]).run P w = .ok v' w' ∧ Own w' base e sz v' (n + m) (L ++ news) ∧ Fr (OwnB v) w w' ∧ Kept v n sz w w' ∧
      (((∃ x o cap, v = .slice (some ⟨x, o, none⟩) n cap ∧ v' = .slice (some ⟨x, o, none⟩) (n + m) cap) ∨ (m = 0 ∧ v' = v)) ∨ (v'.ownBlock = some w.heap.size ∧ Fr Nob w w')) := by
  obtain ⟨i, hi, hz, hsize, hby⟩ := info_parts hi0
  subst hsize
  subst hby
  rcases Nat.eq_zero_or_pos m with rfl | hm
  · obtain ⟨s, cap, rfl, hc, -, -⟩ := hown.form
    have hn : news = [] := List.eq_nil_of_length_eq_zero (by rw [hnews.len]; simp)
    subst hn
    exact ⟨_, w, run_append_zero t ty e i ht hi s n cap hc a c, by simpa using hown, Fr.refl _ _, Kept.refl _ _ _ _, .inl (.inr ⟨rfl, rfl⟩)⟩
  have hms : 0 < m * i.size := Nat.mul_pos hm hsz
  obtain ⟨b, o', rfl, hat⟩ := hnews.at hms
  have hlen : (L ++ news).length = (n + m) * i.size := by rw [List.length_append, hown.1, hnews.len, Nat.add_mul]
  have hsmall : n + m ≤ 9223372036854775807 := by simp only [maxLen] at h63; omega
  have grown : ∀ (old : Nat), old < n + m →
      Own (w.drew.alloc (.cells (L.toArray ++ news.toArray ++ Builtin.zeroCells z.cells (grownCap w (n + m) old e - (n + m))) e)) base e i.size
        (.slice (some ⟨w.heap.size, 0, none⟩) (n + m) (grownCap w (n + m) old e)) (n + m) (L ++ news) ∧
      Fr Nob w (w.drew.alloc (.cells (L.toArray ++ news.toArray ++ Builtin.zeroCells z.cells (grownCap w (n + m) old e - (n + m))) e)) := by
    intro old ho
    have hge := grownCap_ge w (n + m) old e
    have hcm : grownCap w (n + m) old e ≤ maxLen := grownCap_le_maxLen w (n + m) old e h63
    have hz' : (Builtin.zeroCells z.cells (grownCap w (n + m) old e - (n + m))).size = (grownCap w (n + m) old e - (n + m)) * i.size := by simp [size_zeroCells, hzs]
    have hmul : (n + m) * i.size + (grownCap w (n + m) old e - (n + m)) * i.size = grownCap w (n + m) old e * i.size := by rw [← Nat.add_mul]; congr 1; omega
    refine ⟨⟨hlen, .inr ⟨w.heap.size, 0, _, _, rfl, hbase, Has.new w.drew _ e, hge, hcm, ?_, ?_⟩⟩, ((Fr.refl _ w).drew).alloc _⟩
    · rw [List.length_append] at hlen
      simp only [Array.toList_append, List.length_append, Array.length_toList, hz', Nat.zero_add]
      omega
    · simp only [Array.toList_append, List.drop_zero]
      rw [← hlen]
      exact List.take_left
  rcases hown.2 with ⟨rfl, rfl⟩ | ⟨g, o, cap, B, rfl, hbg, hg, hnc, hcm, hl, htake⟩
  · have hx : L = [] := List.eq_nil_of_length_eq_zero (by simpa using hown.1)
    subst hx
    have hr := run_append_nil (P := P) w t ty e i z ht hi hz ⟨b, o', none⟩ m c news hnews.len hat.add hm (by omega) (by have hb := hbytes; simp only [Nat.zero_add] at hb; omega)
    have hgr := grown 0 (by omega)
    simp only [Nat.zero_add, List.nil_append, Array.empty_append] at hgr ⊢
    exact ⟨_, _, hr, hgr.1, hgr.2.mono (fun _ _ t => t.elim), Kept.ofFr hgr.2, .inr ⟨rfl, hgr.2⟩⟩
  · by_cases hroom : n + m ≤ cap
    · have hle : (n + m) * i.size ≤ cap * i.size := Nat.mul_le_mul_right _ hroom
      have hnl := hnews.len
      have hfit : o + n * i.size + news.length ≤ B.length := by rw [Nat.add_mul] at hle; omega
      obtain ⟨w', hr, hh, hf, hzz⟩ := run_append_room2 (P := P) t ty e i ht hi g o n cap B e hg _ m c news hnews h1 hroom hfit
      refine ⟨_, _, hr, ⟨hlen, .inr ⟨g, o, cap, _, rfl, hbg, hh, hroom, hcm, ?_, ?_⟩⟩, hf.mono (fun k _ t => by have e : k = g := t; subst e; rfl), ?_, .inl (.inl ⟨g, o, cap, rfl, rfl⟩)⟩
      · rw [splice_length _ _ _ hfit]; exact hl
      · have := splice_take B o (n * i.size) news hfit
        rw [htake] at this
        rw [← this, hnl, Nat.add_mul]
      · intro b' j hb' hj
        by_cases hbg' : b' = g
        · subst hbg'
          have hj' := hj o cap rfl
          rw [hg.get, hh.get]
          unfold splice
          rw [List.getElem?_append_left (by simp; omega), List.getElem?_take, if_pos hj']
        · exact World.cell?_of_block (a := ⟨b', j, none⟩) (hf.block b' hb' hbg')
    · have hle : n * i.size ≤ cap * i.size := Nat.mul_le_mul_right _ hnc
      have hrd : Rd w (some ⟨g, o, none⟩) (n * i.size) L := by rw [← htake]; exact Rd.ofHas hg o (by omega)
      have holds : ∀ j u, L[j]? = some u → w.cell? ((⟨g, o, none⟩ : Addr).add j) = some u := by
        rcases Nat.eq_zero_or_pos (n * i.size) with h0 | h0
        · have : L = [] := List.eq_nil_of_length_eq_zero (by rw [hown.1, h0])
          subst this; intro j u hu; simp at hu
        · obtain ⟨b2, o2, he, hc2⟩ := hrd.at h0
          simp only [Option.some.injEq, Addr.mk.injEq] at he
          obtain ⟨rfl, rfl, -⟩ := he
          exact hc2.add
      have hr := run_append_grow (P := P) w t ty e i z ht hi hz ⟨g, o, none⟩ n cap L hown.1 holds ⟨b, o', none⟩ m c news hnews.len hat.add (by omega) (by omega) (growslice_fits (by omega) hbytes)
      have hgr := grown cap (by omega)
      exact ⟨_, _, hr, hgr.1, hgr.2.mono (fun _ _ t => t.elim), Kept.ofFr hgr.2, .inr ⟨rfl, hgr.2⟩⟩

section
variable {w : World} {ops : Array Oper} {rest : List Oper} {o : Oper} {a : Act} {Q : Exit → Act → World → Prop}
/-- append(s, x...), x a slice; what stood ahead of the end is kept -/
theorem wl_append_k {s x : Operand} {t : TypeId} (hgd : o.guard = none) (ho : o.op = .call { callee := .builtin .append, args := #[s, x], argTypes := #[t, t] })
    {e : TypeId} {z : Value} {sz by_ : Nat} (ht : P.underlying t = some (.slice e)) (hi0 : (P.info? e).map (fun i => (i.zero, i.size, i.bytes)) = some (some z, sz, by_))
    (hzs : z.cells.size = sz) (hsz : 0 < sz)
    {v : Value} {n base : Nat} {L : List Value} (hown : Own w base e sz v n L) (hs : a.eval s = v)
    {xa : Option Addr} {m c : Nat} {news : List Value} (hx : a.eval x = .slice xa m c) (hnews : Rd w xa (m * sz) news) (h1 : ∀ u ∈ news, u.oneCell' = true)
    (h63 : n + m ≤ maxLen) (hbytes : (n + m) * by_ ≤ 140737488355328) (hbase : base ≤ w.heap.size)
    (h : ∀ v' w', Own w' base e sz v' (n + m) (L ++ news) → Fr (OwnB v) w w' → Kept v n sz w w' → (((∃ x o cap, v = .slice (some ⟨x, o, none⟩) n cap ∧ v' = .slice (some ⟨x, o, none⟩) (n + m) cap) ∨ (m = 0 ∧ v' = v)) ∨ (v'.ownBlock = some w.heap.size ∧ Fr Nob w w')) → wpList P ops Q rest (a.put o.dst v') w') : wpList P ops Q (o :: rest) a w := by
  refine wpList_plain hgd fun K hK => ?_
  obtain ⟨v', w', hr, h2, h3, h4, h5⟩ := run_append3 (P := P) base t o.type e z sz by_ ht hi0 hzs hsz v n L hown xa m c news hnews h1 h63 hbytes hbase
  unfold Oper.wp execOp
  simp only [ho, resolve, invoke, builtin, Sem.run_bind, Sem.run_pure, Result.andThen_ok, List.map_toArray, List.map_cons, List.map_nil, hs, hx, hr]
  exact hK _ _ (h v' w' h2 h3 h4 h5)
end
end Go.Mv
namespace Go.Mv
open Go.RowKit
section
variable {P : Program} {w : World} {ops : Array Oper} {o : Oper} {a : Act} {K : Act → World → Prop} {Q : Exit → Act → World → Prop} {E : Prop}
/-- append(s, x...) inside a region that draws: for the third argument of go_region_held3 -/
theorem step_append {s x : Operand} {t : TypeId} (hgd : o.guard = none) (ho : o.op = .call { callee := .builtin .append, args := #[s, x], argTypes := #[t, t] })
    {e : TypeId} {z : Value} {sz by_ : Nat} (ht : P.underlying t = some (.slice e)) (hi0 : (P.info? e).map (fun i => (i.zero, i.size, i.bytes)) = some (some z, sz, by_))
    (hzs : z.cells.size = sz) (hsz : 0 < sz)
    {v : Value} {n base : Nat} {L : List Value} (hown : Own w base e sz v n L) (hs : a.eval s = v)
    {xa : Option Addr} {m c : Nat} {news : List Value} (hx : a.eval x = .slice xa m c) (hnews : Rd w xa (m * sz) news) (h1 : ∀ u ∈ news, u.oneCell' = true)
    (h63 : n + m ≤ maxLen) (hbytes : (n + m) * by_ ≤ 140737488355328) (hbase : base ≤ w.heap.size)
    (h : ∀ v' w', Own w' base e sz v' (n + m) (L ++ news) → Fr (OwnB v) w w' → K (a.put o.dst v') w') :
    if Region.wanted o (yielded ops a.tmps) = true then Oper.wp P o a w K Q else E := by
  have hw : Region.wanted o (yielded ops a.tmps) = true := by simp [Region.wanted, hgd]
  rw [if_pos hw]
  obtain ⟨v', w', hr, h2, h3, h4⟩ := run_append2 (P := P) base t o.type e z sz by_ ht hi0 hzs hsz v n L hown xa m c news hnews h1 h63 hbytes hbase
  unfold Oper.wp execOp
  simp only [ho, resolve, invoke, builtin, Sem.run_bind, Sem.run_pure, Result.andThen_ok, List.map_toArray, List.map_cons, List.map_nil, hs, hx, hr]
  exact h v' w' h2 h3
end
end Go.Mv

/- Plain lemmas on lists: filling a list from the left. -/
namespace Mvp

/-- the first k of F, the rest of I -/
def fill {α : Type} (F I : List α) (k : Nat) : List α := F.take k ++ I.drop k
theorem fill_length {α : Type} (F I : List α) (k : Nat) (h : F.length = I.length) : (fill F I k).length = I.length := by simp [fill]; omega
theorem fill_zero {α : Type} (F I : List α) : fill F I 0 = I := by simp [fill]
theorem fill_all {α : Type} (F I : List α) (k : Nat) (h : F.length = I.length) (hk : F.length ≤ k) : fill F I k = F := by
  unfold fill
  rw [List.take_of_length_le hk, List.drop_eq_nil_of_le (by omega), List.append_nil]
theorem fill_set {α : Type} (F I : List α) (k : Nat) (h : F.length = I.length) (hk : k < F.length) (d : α) : (fill F I k).set k (F.getD k d) = fill F I (k + 1) := by
  unfold fill
  have e : F.getD k d = F[k] := by simp [List.getD_eq_getElem?_getD, hk]
  rw [e, List.set_append_right _ _ (by simp; omega), List.length_take, Nat.min_eq_left (Nat.le_of_lt hk), Nat.sub_self, List.drop_eq_getElem_cons (by omega), List.set_cons_zero, List.take_succ_eq_append_getElem hk]
  simp only [List.append_assoc, List.singleton_append]
theorem fill_get {α : Type} (F I : List α) (k i : Nat) (h : F.length = I.length) (hk : k ≤ i) : (fill F I k)[i]? = I[i]? := by
  unfold fill
  rcases Nat.lt_or_ge i I.length with hi | hi
  · rw [List.getElem?_append_right (by simp; omega)]
    simp [Nat.min_eq_left (show k ≤ F.length by omega), List.getElem?_drop, show k + (i - k) = i by omega]
  · rw [List.getElem?_eq_none (by simp; omega), List.getElem?_eq_none hi]

/-- Go's shifts of a 64-bit word, at every count -/
def shl (x : UInt64) (k : Nat) : UInt64 := UInt64.ofNat (x.toNat * 2 ^ k)
def shr (x : UInt64) (k : Nat) : UInt64 := UInt64.ofNat (x.toNat / 2 ^ k)
/-- the operators under names of their own -/
def wx (x y : UInt64) : UInt64 := x ^^^ y
def wo (x y : UInt64) : UInt64 := x ||| y
def wa (x y : UInt64) : UInt64 := x &&& y
def wn (x : UInt64) : UInt64 := ~~~x
def wid (x : UInt8) : UInt64 := x.toUInt64
def lo8 (x : UInt64) : UInt8 := x.toUInt8
def bx (x y : UInt8) : UInt8 := x ^^^ y
def bo (x y : UInt8) : UInt8 := x ||| y
def ba (x y : UInt8) : UInt8 := x &&& y
end Mvp

/- Rules of the walk for words: what Go's operators on 64-bit words and on bytes are on UInt64 and UInt8. -/
namespace Go.Mv
open Go.RowKit Mvp

theorem u64_lt (x : UInt64) : x.toNat < 18446744073709551616 := x.toNat_lt
theorem shr_toNat (x : UInt64) (k : Nat) : (shr x k).toNat = x.toNat / 2 ^ k := by
  have := u64_lt x
  have h := Nat.div_le_self x.toNat (2 ^ k)
  simp only [shr, UInt64.toNat_ofNat']
  exact Nat.mod_eq_of_lt (Nat.lt_of_le_of_lt h this)
theorem shl_toNat (x : UInt64) (k : Nat) : (shl x k).toNat = x.toNat * 2 ^ k % 18446744073709551616 := by simp [shl]

theorem shl_run (x : UInt64) (yk : IntKind) (k : Nat) : Op.shift .shl .u64 (x.toNat : Int) yk (k : Int) = pure (.int .u64 ((shl x k).toNat : Int)) := by
  rw [shift_shl_any _ _ _ _ (by omega), shl_toNat]
  congr 2
  rw [IntKind.wrap_u64]
  simp only [Int.toNat_natCast, IntKind.bits]
  rcases Nat.lt_or_ge k 64 with h | h
  · rw [Nat.min_eq_left (by omega)]
    simp
  · rw [Nat.min_eq_right (by omega)]
    obtain ⟨j, rfl⟩ : ∃ j, k = 64 + j := ⟨k - 64, by omega⟩
    have e : x.toNat * 2 ^ (64 + j) = x.toNat * 2 ^ j * 18446744073709551616 := by
      have e64 : (2 : Nat) ^ 64 = 18446744073709551616 := by decide
      rw [Nat.pow_add, e64]; ac_rfl
    rw [e, Nat.mul_mod_left]
    have e2 : (2 : Int) ^ 64 = 18446744073709551616 := by decide
    rw [e2]
    omega
theorem shr_run (x : UInt64) (yk : IntKind) (k : Nat) : Op.shift .shr .u64 (x.toNat : Int) yk (k : Int) = pure (.int .u64 ((shr x k).toNat : Int)) := by
  rw [shift_shr_any _ _ _ _ (by omega), shr_toNat]
  congr 2
  simp only [Int.toNat_natCast, IntKind.bits]
  rcases Nat.lt_or_ge k 64 with h | h
  · rw [Nat.min_eq_left (by omega)]
    simp
  · rw [Nat.min_eq_right (by omega)]
    have hx := u64_lt x
    have e2 : (2 : Int) ^ 64 = 18446744073709551616 := by decide
    have h3 : x.toNat / 2 ^ k = 0 := Nat.div_eq_of_lt (Nat.lt_of_lt_of_le hx (by have := Nat.pow_le_pow_right (show 0 < 2 by omega) h; simpa using this))
    rw [e2, h3]
    omega
theorem shl_lit (x : UInt64) (yk : IntKind) (n : Nat) : Op.shift .shl .u64 (x.toNat : Int) yk (no_index (OfNat.ofNat n)) = pure (.int .u64 ((shl x n).toNat : Int)) := shl_run x yk n
theorem shr_lit (x : UInt64) (yk : IntKind) (n : Nat) : Op.shift .shr .u64 (x.toNat : Int) yk (no_index (OfNat.ofNat n)) = pure (.int .u64 ((shr x n).toNat : Int)) := shr_run x yk n
theorem xor_run (x y : UInt64) : bits .xor .u64 (x.toNat : Int) (y.toNat : Int) = ((wx x y).toNat : Int) := by
  have := bits_xor_u64_nat x.toNat y.toNat (u64_lt x) (u64_lt y)
  rw [this]; simp [wx]
theorem or_run (x y : UInt64) : bits .or .u64 (x.toNat : Int) (y.toNat : Int) = ((wo x y).toNat : Int) := by
  have := bits_or_u64_nat x.toNat y.toNat (u64_lt x) (u64_lt y)
  rw [this]; simp [wo]
theorem and_run (x y : UInt64) : bits .and .u64 (x.toNat : Int) (y.toNat : Int) = ((wa x y).toNat : Int) := by
  have := bits_and_u64_nat x.toNat y.toNat (u64_lt x) (u64_lt y)
  rw [this]; simp [wa]
theorem not_run (x : UInt64) : bits .xor .u64 18446744073709551615 (x.toNat : Int) = ((wn x).toNat : Int) := by
  have e : (18446744073709551615 : Int) = (((18446744073709551615 : UInt64).toNat : Nat) : Int) := by decide
  have e1 : (18446744073709551615 : UInt64) = -1 := by decide
  rw [e, xor_run, e1, wx, UInt64.neg_one_xor, wn]
theorem not_run2 (x : UInt64) : bits .xor .u64 (if IntKind.u64.signed = true then -1 else IntKind.u64.max) (x.toNat : Int) = ((wn x).toNat : Int) := not_run x
theorem and63_run (k : Nat) : bits .and .u64 (k : Int) 63 = ((k % 64 : Nat) : Int) := by
  have h1 : BitVec.ofInt 64 (k : Int) = BitVec.ofNat 64 k := by simp
  have h2 : (BitVec.ofNat 64 k &&& BitVec.ofInt 64 63).toNat = k % 64 := by
    have e : (BitVec.ofInt 64 63).toNat = 2 ^ 6 - 1 := by decide
    rw [BitVec.toNat_and, e, Nat.and_two_pow_sub_one_eq_mod, BitVec.toNat_ofNat]
    omega
  show IntKind.u64.wrap (((BitVec.ofInt 64 (k : Int) &&& BitVec.ofInt 64 63).toNat : Nat) : Int) = _
  rw [h1, h2, IntKind.wrap_u64]
  omega
theorem widen_run (x : UInt8) : IntKind.u64.wrap (x.toNat : Int) = ((wid x).toNat : Int) := by
  have := x.toNat_lt
  rw [IntKind.wrap_u64]; simp [wid]; omega
theorem narrow_run (x : UInt64) : IntKind.u8.wrap (x.toNat : Int) = ((lo8 x).toNat : Int) := by
  rw [IntKind.wrap_u8']; simp [lo8]
theorem xor8_run (x y : UInt8) : bits .xor .u8 (x.toNat : Int) (y.toNat : Int) = ((bx x y).toNat : Int) := by
  rw [u8_xor_nat _ _ x.toNat_lt y.toNat_lt]; simp [bx]
theorem and8_run (x y : UInt8) : bits .and .u8 (x.toNat : Int) (y.toNat : Int) = ((ba x y).toNat : Int) := by
  rw [u8_and_nat _ _ x.toNat_lt y.toNat_lt]; simp [ba]
theorem or8_run (x y : UInt8) : bits .or .u8 (x.toNat : Int) (y.toNat : Int) = ((bo x y).toNat : Int) := by
  rw [u8_or_nat _ _ x.toNat_lt y.toNat_lt]; simp [bo]
theorem wid_toNat (y : UInt8) : (wid y).toNat = y.toNat := by simp [wid]
theorem or_mix (x : UInt64) (y : UInt8) : bits .or .u64 (x.toNat : Int) (y.toNat : Int) = ((wo x (wid y)).toNat : Int) := by rw [← or_run, wid_toNat]
theorem xor_mix (x : UInt64) (y : UInt8) : bits .xor .u64 (x.toNat : Int) (y.toNat : Int) = ((wx x (wid y)).toNat : Int) := by rw [← xor_run, wid_toNat]
theorem shl_mix (x : UInt8) (yk : IntKind) (k : Nat) : Op.shift .shl .u64 (x.toNat : Int) yk (k : Int) = pure (.int .u64 ((shl (wid x) k).toNat : Int)) := by rw [← shl_run, wid_toNat]
theorem shl_wrap (x : UInt64) (k : Nat) : IntKind.u64.wrap ((x.toNat : Int) * 2 ^ k) = ((shl x k).toNat : Int) := by
  rw [IntKind.wrap_u64, shl_toNat]; simp
theorem shr_div (x : UInt64) (k : Nat) : (x.toNat : Int) / 2 ^ k = ((shr x k).toNat : Int) := by
  rw [shr_toNat]; simp
attribute [go_sem high] shl_wrap shr_div or_mix xor_mix shl_mix shl_lit shr_lit shl_run shr_run xor_run or_run and_run not_run not_run2 and63_run widen_run narrow_run xor8_run and8_run or8_run

section
variable {P : Program} {w : World} {ops : Array Oper} {rest : List Oper} {o : Oper} {a : Act} {Q : Exit → Act → World → Prop}
end

end Go.Mv

/- Whole arrays in memory: load, store, result, over the words of Mem. -/
namespace Go.Mv
open Go.RowKit
variable {P : Program}

theorem Has.setCells {g : Nat} {T : TypeId} : ∀ (cs : List Value) (o : Nat) (L : List Value) (w : World), Has w g L T → o + cs.length ≤ L.length → Has (w.setCells g o cs) g (splice L o cs) T ∧ Fr (One g) w (w.setCells g o cs) ∧ (w.setCells g o cs).heap.size = w.heap.size
  | [], o, L, w, h, _ => ⟨by rw [splice_nil]; exact h, Fr.refl _ _, rfl⟩
  | v :: cs, o, L, w, h, hl => by
    simp only [List.length_cons] at hl
    obtain ⟨h1, h2, h3⟩ := Has.setCells cs (o + 1) (L.set o v) (w.setCell ⟨g, o, none⟩ v) (h.set o v) (by simp; omega)
    rw [splice_cons L o v cs (by omega)] at h1
    refine ⟨h1, ((Fr.refl (One g) w).setCell g o none v (fun _ => rfl)).trans h2 (fun _ _ t => t), ?_⟩
    show ((w.setCell ⟨g, o, none⟩ v).setCells g (o + 1) cs).heap.size = _
    rw [h3]; simp [World.setCell]

theorem Has.range {w : World} {g : Nat} {L : List Value} {T : TypeId} (h : Has w g L T) (o : Nat) (cs : List Value) (hcs : (L.drop o).take cs.length = cs) : w.rangeAt g o cs := by
  intro j v hv
  rw [h.get]
  have : j < cs.length := by
    rcases Nat.lt_or_ge j cs.length with k | k
    · exact k
    · simp [List.getElem?_eq_none k] at hv
  rw [← hcs, List.getElem?_take, if_pos this, List.getElem?_drop] at hv
  exact hv
theorem Has.there {w : World} {g : Nat} {L : List Value} {T : TypeId} (h : Has w g L T) (o n : Nat) (hn : o + n ≤ L.length) : w.there g o n := by
  intro j hj
  obtain ⟨v, h1, h2⟩ := h.ready (i := o + j) (by omega)
  exact ⟨by rw [h1]; rfl, h2⟩

section
variable {w : World} {ops : Array Oper} {rest : List Oper} {o : Oper} {a : Act} {Q : Exit → Act → World → Prop}
/-- a whole array is stored -/
theorem wl_storeA {ty : TypeId} {x y : Operand} (hgd : o.guard = none) (ho : o.op = .store ty x y) {g p : Nat} (hx : a.eval x = .pointer (some ⟨g, p, none⟩)) {cs : List Value} (hy : a.eval y = .agg cs.toArray)
    {L : List Value} {T : TypeId} (hg : Has w g L T) (hn : p + cs.length ≤ L.length) (hi : (P.info? ty).map (·.size) = some cs.length) (h1 : ∀ v ∈ cs, v.oneCell' = true)
    (h : ∀ w', Has w' g (splice L p cs) T → Fr (One g) w w' → w'.heap.size = w.heap.size → wpList P ops Q rest (a.put o.dst undef) w') : wpList P ops Q (o :: rest) a w := by
  obtain ⟨k1, k2, k3⟩ := Has.setCells cs p L w hg hn
  exact wpList_store_mid hgd ty x y ho g p cs.toArray hx hy (by simpa using hg.there p cs.length hn) (by simpa using hi) (all_oneCell_toArray h1) (by simpa using h _ k1 k2 k3)
end

section
variable {w : World} {ops : Array Oper} {rest : List Oper} {o : Oper} {a : Act} {Q : Exit → Act → World → Prop}
/-- a new variable -/
theorem wl_alloc {e : TypeId} (hgd : o.guard = none) (ho : o.op = .alloc e) {z : Value} (hi : (P.info? e).map (·.zero) = some (some z)) (L : List Value) (hL : z.cells.toList = L)
    (h : ∀ w', Has w' w.heap.size L e → Fr Nob w w' → w'.heap.size = w.heap.size + 1 → wpList P ops Q rest (a.put o.dst (.pointer (some ⟨w.heap.size, 0, none⟩))) w') : wpList P ops Q (o :: rest) a w := by
  refine wpList_plain hgd fun K hK => ?_
  obtain ⟨i, hi1, hz⟩ : ∃ i, P.info? e = some i ∧ i.zero = some z := by simpa using hi
  have hr : (Instr.alloc e true (.tuple #[])).run P w = .ok (.pointer (some ⟨w.heap.size, 0, none⟩)) (w.alloc (.cells z.cells e)) := by
    simp [Instr.alloc, zeroValue, typeInfo, hi1, hz, newVar, newRow]
  unfold Oper.wp execOp
  simp only [ho, Sem.run_bind, Sem.run_pure, Result.andThen_ok, hr]
  refine hK _ _ (h _ ?_ ((Fr.refl _ w).alloc _) (by simp))
  have := Has.new w z.cells e
  rwa [hL] at this
end

section
variable {w : World} {ops : Array Oper} {rest : List Oper} {o : Oper} {a : Act} {Q : Exit → Act → World → Prop}
theorem run_sliceBound (k : IntKind) (n y : Nat) (code : BoundsCode) (h : n ≤ y) : (Instr.sliceBound (.int k (n : Int)) y code).run P w = .ok n w := by
  have : ((n : Int) ≤ (y : Int)) := by omega
  simp [Instr.sliceBound, asIntOf, this]

/-- where a cut of a slice lies -/
def cutAt (p : Option Addr) (l m : Nat) : Option Addr := if m = l then p else p.map (·.add l)
theorem cutAt_rd {w : World} {p : Option Addr} {n : Nat} {vs : List Value} (hr : Rd w p n vs) (l h m : Nat) (h2 : l ≤ h) (h3 : h ≤ m) (h4 : h ≤ n) : Rd w (cutAt p l m) (h - l) ((vs.drop l).take (h - l)) := by
  have hlen := hr.len
  refine ⟨by simp; omega, ?_⟩
  rcases Nat.eq_zero_or_pos (h - l) with h0 | h0
  · exact .inl h0
  · obtain ⟨b, o, rfl, hc⟩ := hr.at (by omega)
    refine .inr ⟨b, o + l, ?_, hc.sub l (h - l)⟩
    simp [cutAt, show ¬ m = l by omega, addr_add]
end

theorem Rd.lt {w : World} {b o n : Nat} {vs : List Value} (h : Rd w (some ⟨b, o, none⟩) n vs) (hn : 0 < n) : b < w.heap.size := by
  obtain ⟨b', o', he, hc⟩ := h.at hn
  simp only [Option.some.injEq, Addr.mk.injEq] at he
  obtain ⟨rfl, rfl, -⟩ := he
  have := hc.cell (i := 0) (by rw [h.len]; exact hn)
  exact block_lt_of_cell this
end Go.Mv

/- Literals of structs and of slices, boxes. -/
namespace Go.Mv
open Go.RowKit
variable {P : Program}

theorem wl_build {w : World} {ops : Array Oper} {rest : List Oper} {o : Oper} {a : Act} {Q : Exit → Act → World → Prop} {t : TypeId} {parts : Array (Nat × Operand)} (hgd : o.guard = none) (ho : o.op = .build t parts) (cells : Array Value)
    (hb : P.built t (parts.map fun (i, x) => (i, a.eval x)).toList = some cells) (h : wpList P ops Q rest (a.put o.dst (.agg cells)) w) : wpList P ops Q (o :: rest) a w := by
  refine wpList_plain hgd fun K hK => ?_
  have hr := run_build (P := P) w t (parts.map fun (i, x) => (i, a.eval x)) cells hb
  unfold Oper.wp execOp
  simp only [ho, Sem.run_bind, Sem.run_pure, Result.andThen_ok, hr]
  exact hK _ _ h
/-- a slice's block is there already -/
def Old (w : World) (a : Option Addr) : Prop := ∀ x, a = some x → x.block < w.heap.size
theorem Old.grow {w w' : World} {a : Option Addr} (h : Old w a) (hs : w.heap.size ≤ w'.heap.size) : Old w' a := fun x hx => Nat.lt_of_lt_of_le (h x hx) hs
theorem Old.off {w : World} {a : Option Addr} (h : Old w a) {g : Nat} (hg : w.heap.size ≤ g) : Off (One g) a := fun x hx (e : x.block = g) => by have := h x hx; omega
theorem Old.none (w : World) : Old w .none := fun _ h => by cases h
theorem Old.has {w : World} {g : Nat} {L : List Value} {T : TypeId} (h : Has w g L T) (o : Nat) : Old w (some ⟨g, o, .none⟩) := fun x hx => by cases hx; exact h.lt
theorem wl_box {w : World} {ops : Array Oper} {rest : List Oper} {o : Oper} {a : Act} {Q : Exit → Act → World → Prop} {e : TypeId} {x : Operand} (hgd : o.guard = none) (ho : o.op = .box e x) {v : Value} (hx : a.eval x = v) (L : List Value) (hL : v.cells.toList = L)
    (h : ∀ w', Has w' w.heap.size L e → Fr Nob w w' → w'.heap.size = w.heap.size + 1 → wpList P ops Q rest (a.put o.dst (.pointer (some ⟨w.heap.size, 0, none⟩))) w') : wpList P ops Q (o :: rest) a w := by
  refine wpList_plain hgd fun K hK => ?_
  have hr : (Instr.box e v).run P w = .ok (.pointer (some ⟨w.heap.size, 0, none⟩)) (w.alloc (.cells v.cells e)) := by
    simp [Instr.box, newVar, newRow]
  unfold Oper.wp execOp
  simp only [ho, hx, Sem.run_bind, Sem.run_pure, Result.andThen_ok, hr]
  refine hK _ _ (h _ ?_ ((Fr.refl _ w).alloc _) (by simp))
  have := Has.new w v.cells e
  rwa [hL] at this
/-- one byte in a row -/
theorem wl_one {w : World} {ops : Array Oper} {rest : List Oper} {o : Oper} {a : Act} {Q : Exit → Act → World → Prop} {t e : TypeId} {y : Operand} (hgd : o.guard = none) (ho : o.op = .buildSlice t 1 #[(0, y)])
    (hu : P.underlying t = some (.slice e)) (hi0 : (P.info? e).map (fun i => (i.zero, i.size, i.bytes)) = some (some (.int .u8 0), 1, 1)) (x0 : UInt8)
    (hy : a.eval y = .int .u8 (x0.toNat : Int))
    (h : ∀ w', Has w' w.heap.size (bs [x0]) e → Fr Nob w w' → w'.heap.size = w.heap.size + 1 → wpList P ops Q rest (a.put o.dst (.slice (some ⟨w.heap.size, 0, none⟩) 1 1)) w') : wpList P ops Q (o :: rest) a w := by
  obtain ⟨i, hi, hz⟩ : ∃ i, P.info? e = some i ∧ (i.zero, i.size, i.bytes) = (some (.int .u8 0), 1, 1) := by simpa using hi0
  simp only [Prod.mk.injEq] at hz
  obtain ⟨hz, hsz, hby⟩ := hz
  have hp : ((#[(0, y)] : Array (Nat × Operand)).map fun (i, x) => (i, a.eval x)).toList = [(0, .int .u8 (x0.toNat : Int))] := by simp [hy]
  have hf : Instr.fill (fun j => some (j * i.size, i.size)) ((Array.range (1 * i.size)).map ((Value.int .u8 0).cells[· % (Value.int .u8 0).cells.size]!)) ((#[(0, y)] : Array (Nat × Operand)).map fun (i, x) => (i, a.eval x)).toList = some (bs [x0]).toArray := by
    rw [hp, hsz]
    exact Great.fill_flat (bs [x0]) _ (fun v hv => by simp [bs] at hv; subst hv; rfl) (by simp [bs])
  exact wpList_buildSlice hgd t e 1 _ ho _ i _ hu hi hz (by rw [hsz]; decide) (by rw [hsz]; decide) hf (h _ (Has.new w (bs [x0]).toArray e) ((Fr.refl _ w).alloc _) (by simp))
/-- an owned slice's cells: read and written -/
theorem Own.cells {w : World} {base : Nat} {T : TypeId} {v : Value} {n : Nat} {L : List Value} (h : Own w base T 1 v n L) (hn : 0 < n) :
    ∃ g o cap, v = .slice (some ⟨g, o, none⟩) n cap ∧ base ≤ g ∧ g < w.heap.size ∧ n ≤ cap ∧ cap ≤ maxLen ∧ (∀ i x, L[i]? = some x → w.cell? ⟨g, o + i, none⟩ = some x) ∧ (∀ i, i < n → w.frozen? ⟨g, o + i, none⟩ = false) ∧
      (∀ i x, i < n → Own (w.setCell ⟨g, o + i, none⟩ x) base T 1 v n (L.set i x)) := by
  obtain ⟨hl, h | ⟨g, o, cap, B, rfl, hb, hg, h1, h2, h3, h4⟩⟩ := h
  · obtain ⟨_, h0⟩ := h; omega
  · rw [Nat.mul_one] at h3 h4 hl
    refine ⟨g, o, cap, rfl, hb, hg.lt, h1, h2, ?_, ?_, ?_⟩
    · intro i x hx
      rw [← h4, List.getElem?_take] at hx
      split at hx
      · rw [List.getElem?_drop] at hx; exact hg.cell hx
      · cases hx
    · intro i hi; exact hg.free _ (by omega)
    · intro i x hi
      refine ⟨by rw [List.length_set, hl, Nat.mul_one], .inr ⟨g, o, cap, B.set (o + i) x, rfl, hb, hg.set (o + i) x, h1, h2, by rw [List.length_set]; omega, ?_⟩⟩
      rw [Nat.mul_one, ← h4]
      apply List.ext_getElem?
      intro j
      simp only [List.getElem?_take, List.getElem?_drop, List.getElem?_set]
      by_cases hj : j < n
      · rw [if_pos hj]
        by_cases e : i = j
        · subst e
          rw [if_pos rfl, if_pos rfl, if_pos (by omega), if_pos (by rw [List.length_take, List.length_drop]; omega)]
        · rw [if_neg (by omega), if_neg e, if_pos hj]
      · rw [if_neg hj]
        by_cases e : i = j
        · omega
        · rw [if_neg e, if_neg hj]
end Go.Mv

/- One-cell literals of any kind; owned slices and other blocks. -/
namespace Go.Mv
open Go.RowKit
variable {P : Program}
/-- a block of another type is not the slice's own -/
theorem Own.ne {w : World} {base sz n g : Nat} {T T' : TypeId} {v : Value} {L L' : List Value} (h : Own w base T sz v n L) (hg : Has w g L' T') (hT : T ≠ T') : ¬ OwnB v g := by
  intro hv
  obtain ⟨_, ⟨rfl, _⟩ | ⟨g', o, cap, B, rfl, _, hg', _⟩⟩ := h
  · cases hv
  · have : g' = g := by simpa [OwnB, Value.ownBlock] using hv
    subst this
    obtain ⟨_, _, h1, _⟩ := hg
    obtain ⟨_, _, h2, _⟩ := hg'
    rw [h1] at h2
    simp at h2
    exact hT h2.2.1.symm
end Go.Mv

/- Literals of n one-cell elements; loads and stores of structs by value. -/
namespace Go.Mv
open Go.RowKit
variable {P : Program}
/-- n cells in a row -/
theorem wl_slit {w : World} {ops : Array Oper} {rest : List Oper} {o : Oper} {a : Act} {Q : Exit → Act → World → Prop} {t e : TypeId} {k : Nat} {parts : Array (Nat × Operand)} (hgd : o.guard = none) (ho : o.op = .buildSlice t k parts)
    (hu : P.underlying t = some (.slice e)) {z : Value} {by_ : Nat} (hi0 : (P.info? e).map (fun i => (i.zero, i.size, i.bytes)) = some (some z, 1, by_)) (vs : List Value) (hp : (parts.toList.map fun p => (p.1, a.eval p.2)) = (vs.zipIdx 0).map fun x => (x.2, x.1))
    (hv : ∀ v ∈ vs, v.cells = #[v]) (hk : vs.length = k) (hz : z.cells.size = 1)
    (h : ∀ w', Has w' w.heap.size vs e → Fr Nob w w' → w'.heap.size = w.heap.size + 1 → wpList P ops Q rest (a.put o.dst (.slice (some ⟨w.heap.size, 0, none⟩) k k)) w') (hk0 : 0 < k := by decide) (hk24 : k ≤ 16777216 := by decide) : wpList P ops Q (o :: rest) a w := by
  have _hz := hz
  obtain ⟨i, hi, hz0⟩ : ∃ i, P.info? e = some i ∧ (i.zero, i.size, i.bytes) = (some z, 1, by_) := by simpa using hi0
  simp only [Prod.mk.injEq] at hz0
  obtain ⟨hz1, hsz, hby⟩ := hz0
  have hf : Instr.fill (fun j => some (j * i.size, i.size)) ((Array.range (k * i.size)).map (z.cells[· % z.cells.size]!)) (parts.map fun (i, x) => (i, a.eval x)).toList = some vs.toArray := by
    rw [show (parts.map fun (i, x) => (i, a.eval x)).toList = (parts.toList.map fun p => (p.1, a.eval p.2)) by simp, hp, hsz]
    exact Great.fill_flat vs _ hv (by simp [hk])
  exact wpList_buildSlice hgd t e k _ ho _ i _ hu hi hz1 (by rw [hsz]; omega) (by rw [hsz]; omega) hf (h _ (Has.new w vs.toArray e) ((Fr.refl _ w).alloc _) (by simp))

theorem wl_buildL {w : World} {ops : Array Oper} {rest : List Oper} {o : Oper} {a : Act} {Q : Exit → Act → World → Prop} {t : TypeId} {parts : Array (Nat × Operand)} (hgd : o.guard = none) (ho : o.op = .build t parts) (cells : Array Value)
    (hb : P.built t (parts.toList.map fun p => (p.1, a.eval p.2)) = some cells) (h : wpList P ops Q rest (a.put o.dst (.agg cells)) w) : wpList P ops Q (o :: rest) a w :=
  wl_build hgd ho cells (by rw [show (parts.map fun (i, x) => (i, a.eval x)).toList = (parts.toList.map fun p => (p.1, a.eval p.2)) by simp]; exact hb) h
/-- a whole row (array or struct) is read, out of cells -/
theorem wl_loadR {w : World} {ops : Array Oper} {rest : List Oper} {o : Oper} {a : Act} {Q : Exit → Act → World → Prop} {ty : TypeId} {x : Operand} (hgd : o.guard = none) (ho : o.op = .load ty x) {d : TypeDesc} (hu : P.underlying ty = some d) (hd : d.isRow = true) {g p : Nat} (hx : a.eval x = .pointer (some ⟨g, p, none⟩))
    {cs : List Value} (hg : At w g p cs) (hi : (P.info? ty).map (·.size) = some cs.length)
    (h : wpList P ops Q rest (a.put o.dst (.agg cs.toArray)) w) : wpList P ops Q (o :: rest) a w :=
  wpList_load_mid hgd ty x ho g p hx cs d (fun j v hv => hg j v hv) hu hd hi h
end Go.Mv

/- An empty slice literal. -/
namespace Go.Mv
open Go.RowKit
variable {P : Program}
theorem wl_slit0 {w : World} {ops : Array Oper} {rest : List Oper} {o : Oper} {a : Act} {Q : Exit → Act → World → Prop} {t e : TypeId} (hgd : o.guard = none) (ho : o.op = .buildSlice t 0 #[])
    (hu : P.underlying t = some (.slice e)) {z : Option Value} {sz by_ : Nat} (hi0 : (P.info? e).map (fun i => (i.zero, i.size, i.bytes)) = some (z, sz, by_))
    (h : ∀ w', Own w' w.heap.size e sz (.slice (some ⟨w.heap.size, 0, none⟩) 0 0) 0 [] → Fr Nob w w' → w'.heap.size = w.heap.size + 1 → wpList P ops Q rest (a.put o.dst (.slice (some ⟨w.heap.size, 0, none⟩) 0 0)) w') : wpList P ops Q (o :: rest) a w := by
  obtain ⟨i, hi, hz0⟩ : ∃ i, P.info? e = some i ∧ (i.zero, i.size, i.bytes) = (z, sz, by_) := by simpa using hi0
  simp only [Prod.mk.injEq] at hz0
  obtain ⟨hz1, hsz, hby⟩ := hz0
  refine wpList_plain hgd fun K hK => ?_
  have hr : (Instr.buildSlice t 0 #[]).run P w = .ok (.slice (some ⟨w.heap.size, 0, none⟩) 0 0) (w.alloc (.cells #[] e)) := by
    simp [Instr.buildSlice, run_underlying hu, sizeOf, typeInfo, hi, Instr.fill, newRow]
    exact congrArg (fun c => w.alloc (Obj.cells c e)) (Array.eq_empty_of_size_eq_zero (by simp))
  unfold Oper.wp execOp
  simp only [ho, Sem.run_bind, List.map_toArray, List.map_nil, hr, Result.andThen_ok]
  refine hK _ _ (h _ ?_ ((Fr.refl _ w).alloc _) (by simp))
  have := Own.made (Has.new w #[] e) w.heap.size (Nat.le_refl _) sz 0 0 (Nat.le_refl _) (by decide) (by simp)
  simpa using this
end Go.Mv
namespace Go.Mv
open Go.RowKit
variable {P : Program}
/-- n rows in a row: a slice literal of structs -/
theorem wl_slitR {w : World} {ops : Array Oper} {rest : List Oper} {o : Oper} {a : Act} {Q : Exit → Act → World → Prop} {t e : TypeId} {k : Nat} {parts : Array (Nat × Operand)} (hgd : o.guard = none) (ho : o.op = .buildSlice t k parts)
    (hu : P.underlying t = some (.slice e)) {z : Value} {sz by_ : Nat} (hi0 : (P.info? e).map (fun i => (i.zero, i.size, i.bytes)) = some (some z, sz, by_)) (vs : List Value) (hp : (parts.toList.map fun p => (p.1, a.eval p.2)) = (vs.zipIdx 0).map fun x => (x.2, x.1))
    (hv : ∀ v ∈ vs, v.cells.size = sz) (hk : vs.length = k) (L : List Value) (hL : (vs.flatMap fun v => v.cells.toList) = L)
    (h : ∀ w', Has w' w.heap.size L e → Fr Nob w w' → w'.heap.size = w.heap.size + 1 → wpList P ops Q rest (a.put o.dst (.slice (some ⟨w.heap.size, 0, none⟩) k k)) w') (hk0 : 0 < k * sz := by decide) (hk24 : k * sz ≤ 16777216 := by decide) : wpList P ops Q (o :: rest) a w := by
  obtain ⟨i, hi, hz0⟩ : ∃ i, P.info? e = some i ∧ (i.zero, i.size, i.bytes) = (some z, sz, by_) := by simpa using hi0
  simp only [Prod.mk.injEq] at hz0
  obtain ⟨hz1, hsz, hby⟩ := hz0
  have hs0 : 0 < sz := Nat.pos_of_mul_pos_left hk0
  have hf : Instr.fill (fun j => some (j * i.size, i.size)) ((Array.range (k * i.size)).map (z.cells[· % z.cells.size]!)) (parts.map fun (i, x) => (i, a.eval x)).toList = some L.toArray := by
    rw [show (parts.map fun (i, x) => (i, a.eval x)).toList = (parts.toList.map fun p => (p.1, a.eval p.2)) by simp, hp, hsz, ← hL]
    exact Great.fill_whole hs0 vs _ hv (by simp [hk])
  exact wpList_buildSlice hgd t e k _ ho _ i _ hu hi hz1 (by rw [hsz]; omega) (by rw [hsz]; omega) hf (h _ (Has.new w L.toArray e) ((Fr.refl _ w).alloc _) (by simp))
end Go.Mv
namespace Go.Mv
open Go.RowKit
variable {P : Program}
theorem wl_index_arr {w : World} {ops : Array Oper} {rest : List Oper} {o : Oper} {a : Act} {Q : Exit → Act → World → Prop} {t e e' : TypeId} {n : Nat} {x i : Operand} (hgd : o.guard = none) (ho : o.op = .index t x i) (ht : P.underlying t = some (.array n e)) (he : P.underlying e = some (.slice e'))
    (hi0 : (P.info? e).map (·.size) = some 1) {cs : Array Value} {ki : IntKind} {k : Nat} {v : Value} (hx : a.eval x = .agg cs) (hi : a.eval i = .int ki (k : Int)) (hk : k < n) (hv : cs[k]? = some v)
    (h : wpList P ops Q rest (a.put o.dst v) w) : wpList P ops Q (o :: rest) a w := by
  obtain ⟨j, hj, hsz⟩ : ∃ j, P.info? e = some j ∧ j.size = 1 := by simpa using hi0
  refine wpList_plain hgd fun K hK => ?_
  have hr : (Instr.index t (.agg cs) (.int ki (k : Int))).run P w = .ok v w := by
    have h1 : (0 : Int) ≤ (k : Int) ∧ (k : Int) < (n : Int) := by omega
    simp [Instr.index, asIntOf, run_underlying ht, sizeOf, typeInfo, hj, hsz, part, isAgg, run_underlying he, h1, hv]
    intro h; omega
  unfold Oper.wp execOp
  simp only [ho, hx, hi, Sem.run_bind, hr, Result.andThen_ok]
  exact hK _ _ h
end Go.Mv

/- mintvaultref1.Lent: the bytes of a text, at the front of a longer list. -/
namespace Go.Proofs.Ytdadnajbdnbbdaa
open Go.RowKit Go.Mv Mvp

theorem info_u8 : (Try.prog.info? 5).map (fun i => (i.zero, i.size, i.bytes)) = some (some (.int .u8 0), 1, 1) := by kernel_rfl
theorem size_u8 : (Try.prog.info? 5).map (·.size) = some 1 := by kernel_rfl

/-- what lies behind the text -/
def lentTail (n : Nat) : List UInt8 := (List.range 160).map fun j => UInt8.ofNat ((n + j) % 251) ^^^ 0xA5
def lentL (l : List UInt8) : List UInt8 := l ++ lentTail l.length
theorem lentL_len (l : List UInt8) : (lentL l).length = l.length + 160 := by simp [lentL, lentTail]
theorem lentL_at (l : List UInt8) (i : Nat) (h1 : l.length ≤ i) (h2 : i < l.length + 160) : (lentL l).getD i 0 = UInt8.ofNat (i % 251) ^^^ 0xA5 := by
  rw [List.getD_eq_getElem?_getD, lentL, List.getElem?_append_right h1]
  simp only [lentTail, List.getElem?_map, List.getElem?_range (show i - l.length < 160 by omega), Option.map_some, Option.getD_some]
  rw [show l.length + (i - l.length) = i by omega]

theorem size_list (s : ByteArray) : s.data.toList.length = s.size := by simp
theorem lent_fill_len (s : ByteArray) (k : Nat) : (fill (lentL s.data.toList) (s.data.toList ++ List.replicate 160 0) k).length = s.size + 160 := by
  rw [fill_length]
  · simp
  · simp [lentL_len]
theorem lent_start (s : ByteArray) : splice (List.replicate (s.size + 160) (Value.int .u8 0)) 0 (bs s.data.toList) = bs (fill (lentL s.data.toList) (s.data.toList ++ List.replicate 160 0) s.size) := by
  have h1 : fill (lentL s.data.toList) (s.data.toList ++ List.replicate 160 0) s.size = s.data.toList ++ List.replicate 160 0 := by
    unfold fill lentL
    rw [List.take_left' (by simp), List.drop_left' (by simp)]
  rw [h1]
  unfold splice
  rw [bs_append, bs_len]
  simp [bs]

set_option maxHeartbeats 400000 in
set_option maxRecDepth 100000 in
theorem lent_any (s : ByteArray) (w : World) (hs : s.size ≤ 1000000) :
    Calls Try.prog 9 #[.string s] w fun e w' => e = .returned (.slice (some ⟨w.heap.size, 0, none⟩) (s.size + 160) (s.size + 160)) ∧ Has w' w.heap.size (bs (lentL s.data.toList)) 5 ∧ Fr Nob w w' ∧ w'.heap.size = w.heap.size + 1 := by
  go_enter Try.func9, Try.ntmps9
  go_wp2_with (first
    | (at_make; refine wl_make rfl rfl Try.underlying22 info_u8 rfl rfl rfl (s.size + 160) (s.size + 160) (by simp) (by simp) (by omega) (by omega) (by unfold maxLen; omega) ?_; intro w1 hw1 hf1 hz1)
    | (with_reducible refine wl_stop (o := ⟨some 11, _, _, _, _, _⟩) ?_))
  refine wl_copy_str rfl rfl Try.underlying22 size_u8 rfl rfl hw1 (by omega) (by simp) ?_
  intro w2 hw2 hf2 hz2
  go_wp2_with fail
  go_loopw [4] (fun i wr => ∃ k : Nat, s.size ≤ k ∧ k ≤ s.size + 160 ∧ i = .int .i64 k ∧ Has wr w.heap.size (bs (fill (lentL s.data.toList) (s.data.toList ++ List.replicate 160 0) k)) 5 ∧ Fr Nob w wr ∧ wr.heap.size = w.heap.size + 1)
    (fun i _ => s.size + 160 - (intOf i).toNat)
  case atStart =>
    refine ⟨s.size, Nat.le_refl _, by omega, rfl, ?_, (hf1.new hf2 (Nat.le_refl _)), by omega⟩
    have e := lent_start s
    rw [← e]; exact hw2
  case round =>
    obtain ⟨k, hk1, hk2, rfl, hh, hf, hz⟩ := hrel
    have hlen : (bs (fill (lentL s.data.toList) (s.data.toList ++ List.replicate 160 0) k)).length = s.size + 160 := by rw [length_bs]; exact lent_fill_len s k
    by_cases hlt : k < s.size + 160
    · obtain ⟨v0, hc, hfr⟩ := hh.ready (i := k) (by rw [hlen]; exact hlt)
      clear hlen hz1 hz2 hw1 hw2 hf1 hf2
      go_wp2
      go_roundw
      case rel =>
        refine ⟨k + 1, by omega, by omega, by go_num, ?_, hf.setCell _ _ _ _ (fun h => absurd h (Nat.lt_irrefl _)), by simpa [World.setCell] using hz⟩
        have e : Value.int .u8 (bits BinOp.xor IntKind.u8 ((k : Int) % 251) 165) = .int .u8 (((lentL s.data.toList).getD k 0).toNat : Int) := by
          rw [lentL_at _ _ (by rw [size_list]; exact hk1) (by rw [size_list]; exact hlt)]
          have e1 : ((k : Int) % 251) = ((k % 251 : Nat) : Int) := by omega
          have e2 := u8_xor_nat (k % 251) 165 (by omega) (by omega)
          rw [e1]
          rw [show (165 : Int) = ((165 : Nat) : Int) from rfl, e2]
          have e3 : k % 251 % 256 = k % 251 := by omega
          simp [UInt8.toNat_xor, e3]
        rw [e]
        have := hh.set k (.int .u8 (((lentL s.data.toList).getD k 0).toNat : Int))
        rw [bs_set, fill_set _ _ _ (by simp [lentL_len]) (by rw [lentL_len, size_list]; exact hlt)] at this
        exact this
      case measure => simp [intOf]; omega
    · go_wp2
      go_ret
      have e : fill (lentL s.data.toList) (s.data.toList ++ List.replicate 160 0) k = lentL s.data.toList := fill_all _ _ _ (by simp [lentL_len]) (by rw [lentL_len, size_list]; omega)
      rw [e] at hh
      exact ⟨rfl, hh, hf, hz⟩
end Go.Proofs.Ytdadnajbdnbbdaa

/- mintvaultref1.Still: is a list all as it was lent? -/
namespace Go.Proofs.Ytdadnajbdnbbdaa
open Go.RowKit Go.Mv Mvp

theorem ret_bool {a b : Bool} (h : a = b) : Ending.returned (.bool a) = .returned (.bool b) := by rw [h]

set_option maxHeartbeats 400000 in
set_option maxRecDepth 100000 in
theorem still_any (b : Option Addr) (n c : Nat) (l : List UInt8) (s : ByteArray) (w : World) (hs : s.size ≤ 1000000) (hb : RdB w b n l) :
    Calls Try.prog 11 #[.slice b n c, .string s] w fun e w' => e = .returned (.bool (decide (l = lentL s.data.toList))) ∧ Fr Nob w w' := by
  go_enter Try.func11, Try.ntmps11
  go_wp2_with fail
  refine (lent_any s _ hs).mono ?_
  rintro e w1 ⟨rfl, hh, hf, hz⟩
  have hb1 := hb.still hf
  have hc1 : RdB w1 (some ⟨w.heap.size, 0, none⟩) (s.size + 160) (lentL s.data.toList) := by
    have := Rd.whole hh
    rwa [length_bs, lentL_len, size_list] at this
  go_wp2_with (first
    | (with_reducible refine wl_stop (o := ⟨some 9, _, _, _, _, _⟩) ?_))
  refine wl_string rfl rfl Try.underlying22 Try.underlying5 Try.underlying9 rfl hb1 ?_
  go_wp2_with (first
    | (with_reducible refine wl_stop (o := ⟨some 11, _, _, _, _, _⟩) ?_))
  refine wl_string rfl rfl Try.underlying22 Try.underlying5 Try.underlying9 rfl hc1 ?_
  go_wp2_with fail
  go_ret
  exact ⟨ret_bool (beq_mkS _ _), hf⟩
end Go.Proofs.Ytdadnajbdnbbdaa

/- Pure sponge: what the program's and the reference's permutation compute, and that the two are one. -/
namespace Mvp


/- the program -/
/- the reference -/
def place (x y : Nat) : Nat := x % 5 + 5 * (y % 5)
/- the constants of the rounds -/
/- how far the lanes are turned -/
/- bytes into words, and back -/
end Mvp

/- word functions of the sponge -/
namespace Go.Proofs.Ytdadnajbdnbbdaa
open Go.RowKit Go.Mv Mvp

end Go.Proofs.Ytdadnajbdnbbdaa

/- the constants of the rounds, and how far the lanes are turned -/
namespace Go.Proofs.Ytdadnajbdnbbdaa
open Go.RowKit Go.Mv Mvp

end Go.Proofs.Ytdadnajbdnbbdaa

/- how far the lanes are turned -/
namespace Go.Proofs.Ytdadnajbdnbbdaa
open Go.RowKit Go.Mv Mvp

end Go.Proofs.Ytdadnajbdnbbdaa

/- the state: bytes are added, and given -/
namespace Go.Proofs.Ytdadnajbdnbbdaa
open Go.RowKit Go.Mv Mvp

end Go.Proofs.Ytdadnajbdnbbdaa

/- the state's bytes; Permute -/
namespace Go.Proofs.Ytdadnajbdnbbdaa
open Go.RowKit Go.Mv Mvp

end Go.Proofs.Ytdadnajbdnbbdaa

/- the permutation of the program -/
namespace Go.Proofs.Ytdadnajbdnbbdaa
open Go.RowKit Go.Mv Mvp

end Go.Proofs.Ytdadnajbdnbbdaa

/- the reference's round -/
namespace Go.Proofs.Ytdadnajbdnbbdaa
open Go.RowKit Go.Mv Mvp

end Go.Proofs.Ytdadnajbdnbbdaa

/- Pure sponge: the permutation of bytes, both ways. -/
namespace Mvp

/- the reference's way: by or -/
end Mvp

/- Permute, the program's and the reference's -/
namespace Go.Proofs.Ytdadnajbdnbbdaa
open Go.RowKit Go.Mv Mvp

end Go.Proofs.Ytdadnajbdnbbdaa

/- Permute of the reference -/
namespace Go.Proofs.Ytdadnajbdnbbdaa
open Go.RowKit Go.Mv Mvp

end Go.Proofs.Ytdadnajbdnbbdaa

/- Pure sponge: bytes are fed one by one; the sponge and what is hashed with it. -/
namespace Mvp

/- the sponge -/
/-- enough pieces for n bytes -/
def pieces (n : Nat) : Nat := (n + 135) / 136
end Mvp

/- Pure sponge: words and their bytes are one. -/
namespace Mvp

end Mvp

/- Slice expressions as equations on their runs: to be laid ahead of a walk. -/
namespace Go.Mv
open Go.RowKit
variable {P : Program}

theorem cutAt_0 (p : Option Addr) (m : Nat) : cutAt p 0 m = p := by
  unfold cutAt
  split
  · rfl
  · cases p with
    | none => rfl
    | some a => simp [Addr.add]
theorem run_slice_hi (w : World) {ty e : TypeId} (hu : P.underlying ty = some (.slice e)) (hsz : (P.info? e).map (·.size) = some 1) (p : Option Addr) (n c : Nat) (k : IntKind) (h : Nat) (hh : h ≤ c) :
    (Instr.sliceAt ty (.slice p n c) none (some (.int k (h : Int))) none).run P w = .ok (.slice p h c) w := by
  obtain ⟨i, hi1, hi2⟩ : ∃ i, P.info? e = some i ∧ i.size = 1 := by simpa using hsz
  have := cutAt_0 p c
  simp [Instr.sliceAt, Instr.slice, run_underlying hu, Instr.sliceBounds, run_sliceBound, hh, sizeOf, typeInfo, hi1, Addr.add]
theorem run_slice_lo (w : World) {ty e : TypeId} (hu : P.underlying ty = some (.slice e)) (hsz : (P.info? e).map (·.size) = some 1) (p : Option Addr) (n c : Nat) (k : IntKind) (l : Nat) (hl : l ≤ n) :
    (Instr.sliceAt ty (.slice p n c) (some (.int k (l : Int))) none none).run P w = .ok (.slice (cutAt p l c) (n - l) (c - l)) w := by
  obtain ⟨i, hi1, hi2⟩ : ∃ i, P.info? e = some i ∧ i.size = 1 := by simpa using hsz
  simp [Instr.sliceAt, Instr.slice, run_underlying hu, Instr.sliceBounds, run_sliceBound, hl, sizeOf, typeInfo, hi1, hi2, cutAt]

end Go.Mv

/- absorber.write -/
namespace Go.Proofs.Ytdadnajbdnbbdaa
open Go.RowKit Go.Mv Mvp

end Go.Proofs.Ytdadnajbdnbbdaa

/- The reference's sponge, on bytes: what it computes is the sponge on words. -/
namespace Mvp

end Mvp

/- The reference's sponge -/
namespace Go.Proofs.Ytdadnajbdnbbdaa
open Go.RowKit Go.Mv Mvp
theorem Rd.take {w : World} {a : Option Addr} {n : Nat} {vs : List Value} (h : Rd w a n vs) (p : Nat) (hp : p ≤ n) : Rd w a p (vs.take p) := by
  refine ⟨by rw [List.length_take, h.len]; omega, h.2.imp (fun h0 => by omega) ?_⟩
  rintro ⟨b, o, rfl, hc⟩
  refine ⟨b, o, rfl, fun i v hv => ?_⟩
  rw [List.getElem?_take] at hv
  split at hv
  · exact hc i v hv
  · cases hv
theorem mkS_append (l m : List UInt8) : mkS l ++ mkS m = mkS (l ++ m) := by
  apply ByteArray.ext
  simp [mkS]
end Go.Proofs.Ytdadnajbdnbbdaa

/- absorber.out, and what hashes with it -/
namespace Go.Proofs.Ytdadnajbdnbbdaa
open Go.RowKit Go.Mv Mvp
end Go.Proofs.Ytdadnajbdnbbdaa

/- absorber.frame; the reference's Frame -/
namespace Mvp
end Mvp
namespace Go.Proofs.Ytdadnajbdnbbdaa
open Go.RowKit Go.Mv Mvp
end Go.Proofs.Ytdadnajbdnbbdaa

/- Hash, stream and Stream of the sponge -/
namespace Go.Proofs.Ytdadnajbdnbbdaa
open Go.RowKit Go.Mv Mvp
end Go.Proofs.Ytdadnajbdnbbdaa

/- sponge.tag and sponge.Tag -/
namespace Go.Proofs.Ytdadnajbdnbbdaa
open Go.RowKit Go.Mv Mvp
/-- the value reads as these bytes, from an old block -/
def PartIs (w : World) (v : Value) (l : List UInt8) : Prop := ∃ a n c, v = .slice a n c ∧ n ≤ c ∧ n ≤ 1000000 ∧ RdB w a n l ∧ Old w a
theorem PartIs.still {w w' : World} {v : Value} {l : List UInt8} (h : PartIs w v l) (hf : Fr Nob w w') : PartIs w' v l := by
  obtain ⟨a, n, c, h1, h2, h3, h4, h5⟩ := h
  exact ⟨a, n, c, h1, h2, h3, h4.still hf, h5.grow hf.size⟩
/-- a slice of slices of bytes -/
def PartsAt (w : World) (a : Option Addr) (ls : List (List UInt8)) : Prop := ∃ vs : List Value, Rd w a ls.length vs ∧ ∀ (i : Nat) (v : Value), vs[i]? = some v → ∃ l : List UInt8, ls[i]? = some l ∧ PartIs w v l
theorem PartsAt.get {w : World} {a : Option Addr} {ls : List (List UInt8)} (h : PartsAt w a ls) {j : Nat} (hj : j < ls.length) : ∃ b o v, a = some ⟨b, o, none⟩ ∧ w.cell? ⟨b, o + j, none⟩ = some v ∧ PartIs w v (ls.getD j []) := by
  obtain ⟨vs, hr, hv⟩ := h
  obtain ⟨b, o, rfl, hat⟩ := hr.at (by omega)
  have hl := hr.len
  obtain ⟨l, h1, h2⟩ := hv j (vs[j]'(by omega)) (List.getElem?_eq_getElem (by omega))
  refine ⟨b, o, vs[j]'(by omega), rfl, hat j _ (List.getElem?_eq_getElem (by omega)), ?_⟩
  rwa [List.getD_eq_getElem?_getD, h1]
theorem PartsAt.still {w w' : World} {a : Option Addr} {ls : List (List UInt8)} (h : PartsAt w a ls) (hf : Fr Nob w w') : PartsAt w' a ls := by
  obtain ⟨vs, hr, hv⟩ := h
  refine ⟨vs, hr.still hf, fun i v hi => ?_⟩
  obtain ⟨l, h1, h2⟩ := hv i v hi
  exact ⟨l, h1, h2.still hf⟩
end Go.Proofs.Ytdadnajbdnbbdaa

/- mintvaultlaw1.SpongeTurns: the walk of the law -/
namespace Go.Proofs.Ytdadnajbdnbbdaa
open Go.RowKit Go.Mv Mvp

end Go.Proofs.Ytdadnajbdnbbdaa

/- The reference's Hash and Stream; the law SpongeHashes -/
namespace Go.Proofs.Ytdadnajbdnbbdaa
open Go.RowKit Go.Mv Mvp
end Go.Proofs.Ytdadnajbdnbbdaa

/- Arguments that were handed in, opened into the words of Mem. -/
namespace Go.Mv
open Go.RowKit Go.ChangeShapes Go.WideShapes

/-- strings as values -/
def ss (l : List (List UInt8)) : List Value := l.map fun x => .string (mkS x)
theorem ss_get (l : List (List UInt8)) (i : Nat) (hi : i < l.length) : (ss l)[i]? = some (.string (mkS (l.getD i []))) := by
  simp [ss, List.getD_eq_getElem?_getD, hi]

section
variable {H : Type} {enc : TypeId × Value → H} {P : Program} {w : World} {base : Nat} {held : Bool} {spare : Nat → Bool}
theorem weightsAll_mem {e : TypeId} : ∀ {ds : List (DataW H)} {d : DataW H}, d ∈ ds → ∀ n ∈ d.weights P e, n ∈ DataW.weightsAll P e ds
  | [], _, h, _, _ => by simp at h
  | d0 :: ds, d, h, n, hn => by
    simp only [DataW.weightsAll, List.mem_append]
    rcases List.mem_cons.1 h with rfl | h
    · exact .inl hn
    · exact .inr (weightsAll_mem h n hn)
end
end Go.Mv

/- The reference's Tag -/
namespace Go.Proofs.Ytdadnajbdnbbdaa
open Go.RowKit Go.Mv Mvp
end Go.Proofs.Ytdadnajbdnbbdaa

/- A log of the sponge, the reference's: NewLog, Say, Ask, Clone. -/
namespace Go.Proofs.Ytdadnajbdnbbdaa
open Go.RowKit Go.Mv Mvp
theorem info_sl : (Try.prog.info? 22).map (fun i => (i.zero, i.size, i.bytes)) = some (some (.slice none 0 0), 1, 24) := by kernel_rfl
theorem info_str : (Try.prog.info? 9).map (fun i => (i.zero, i.size, i.bytes)) = some (some (.string ByteArray.empty), 1, 16) := by kernel_rfl

/-- parts by their values -/
def Parts (w : World) : List Value → List (List UInt8) → Prop
  | [], [] => True
  | v :: vs, l :: ls => PartIs w v l ∧ Parts w vs ls
  | _, _ => False
theorem Parts.len {w : World} : ∀ {vs : List Value} {ls : List (List UInt8)}, Parts w vs ls → vs.length = ls.length
  | [], [], _ => rfl
  | _ :: _, _ :: _, h => by simp only [List.length_cons]; rw [Parts.len h.2]
  | [], _ :: _, h => h.elim
  | _ :: _, [], h => h.elim
theorem Parts.get {w : World} : ∀ {vs : List Value} {ls : List (List UInt8)}, Parts w vs ls → ∀ (i : Nat) (v : Value), vs[i]? = some v → ∃ l : List UInt8, ls[i]? = some l ∧ PartIs w v l
  | [], [], _, i, v, h => by simp at h
  | x :: vs, l :: ls, h, 0, v, hv => by simp only [List.getElem?_cons_zero, Option.some.injEq] at hv; subst hv; exact ⟨l, rfl, h.1⟩
  | x :: vs, l :: ls, h, i + 1, v, hv => by simp only [List.getElem?_cons_succ] at hv ⊢; exact Parts.get h.2 i v hv
  | [], _ :: _, h, _, _, _ => h.elim
  | _ :: _, [], h, _, _, _ => h.elim
theorem Parts.at {w : World} {g : Nat} {T : TypeId} {vs : List Value} {ls : List (List UInt8)} (h : Parts w vs ls) (hg : Has w g vs T) : PartsAt w (some ⟨g, 0, none⟩) ls :=
  ⟨vs, by have := Rd.whole hg; rwa [h.len] at this, h.get⟩
theorem Parts.cells {w : World} : ∀ {vs : List Value} {ls : List (List UInt8)}, Parts w vs ls → ∀ v ∈ vs, v.cells = #[v]
  | [], _, _, v, h => by simp at h
  | x :: vs, l :: ls, h, v, hv => by
    rcases List.mem_cons.1 hv with rfl | hv
    · obtain ⟨a, n, c, rfl, _⟩ := h.1; rfl
    · exact Parts.cells h.2 v hv
  | _ :: _, [], h, _, _ => h.elim
theorem own_part {w : World} {base n : Nat} {T : TypeId} {v : Value} {l : List UInt8} (h : Own w base T 1 v n (bs l)) (hn : n ≤ 1000000) : PartIs w v l := by
  have h0 := h
  obtain ⟨a, c, rfl, hc, hr, -⟩ := h.form
  rw [Nat.mul_one] at hr
  refine ⟨a, n, c, rfl, hc, hn, hr, ?_⟩
  intro x hx
  exact (h0.lt (by rw [hx]; rfl)).2

/-! The reference's -/
end Go.Proofs.Ytdadnajbdnbbdaa

/- The tree, plain: what a path leads to, from its end (the document) and from its beginning (the program). -/
namespace Mvt
variable {α : Type} (nd : α → α → α)
/-- the greatest power of two below n -/
def half (n : Nat) : Nat := 2 ^ Nat.log2 (n - 1)
/-- up, as far as nothing stands beside -/
def skip (a e : Nat) : Nat × Nat := if a % 2 = 0 ∧ 0 < a then skip (a / 2) (e / 2) else (a, e)
termination_by a
decreasing_by omega
end Mvt

/- The tree: node, leafHash, bytes.Equal, sized, lists, small; the reference's leaf, node, half, sized. -/
namespace Go.Proofs.Ytdadnajbdnbbdaa
open Go.RowKit Go.Mv Mvp Mvt
end Go.Proofs.Ytdadnajbdnbbdaa

/- SpongeLogs: what stays of many logs, step by step. -/
namespace Go.Mv
open Go.RowKit
theorem Has.ne {w : World} {g g' : Nat} {L L' : List Value} {T T' : TypeId} (h : Has w g L T) (h' : Has w g' L' T') (hT : T ≠ T') : g ≠ g' := by
  rintro rfl
  obtain ⟨_, _, h1, _⟩ := h
  obtain ⟨_, _, h2, _⟩ := h'
  rw [h1] at h2
  simp at h2
  exact hT h2.2.1
theorem Own.ne2 {w : World} {base base' sz sz' n n' : Nat} {T T' : TypeId} {v v' : Value} {L L' : List Value} (h : Own w base T sz v n L) (h' : Own w base' T' sz' v' n' L') (hT : T ≠ T') (k : Nat) (hk : OwnB v k) : ¬ OwnB v' k := by
  obtain ⟨_, ⟨rfl, _⟩ | ⟨g, o, cap, B, rfl, _, hg, _⟩⟩ := h'
  · intro t; cases t
  · intro t
    have e : g = k := by simpa [OwnB, Value.ownBlock] using t
    subst e
    exact h.ne hg hT hk
end Go.Mv
namespace Go.Proofs.Ytdadnajbdnbbdaa
open Go.RowKit Go.Mv Mvp
abbrev Tri : Type := Nat × Nat × List UInt8
variable {w w' : World} {base ga gb : Nat} {sa sb : List UInt8} {T : List Tri} {vk vw : Value} {Lk Lw : List Value}
end Go.Proofs.Ytdadnajbdnbbdaa

/- mintvaultlaw8.lists, small: lists of strings as lists of bytes. -/
namespace Go.Proofs.Ytdadnajbdnbbdaa
open Go.RowKit Go.Mv Mvp Mvt
/-- slices of bytes of the call's own -/
def POwn (w : World) (base : Nat) : List Value → List (List UInt8) → Prop
  | [], [] => True
  | v :: vs, l :: ls => Own w base 5 1 v l.length (bs l) ∧ POwn w base vs ls
  | _, _ => False
theorem POwn.len {w : World} {base : Nat} : ∀ {vs : List Value} {ls : List (List UInt8)}, POwn w base vs ls → vs.length = ls.length
  | [], [], _ => rfl
  | _ :: _, _ :: _, h => by simp only [List.length_cons]; rw [POwn.len h.2]
  | [], _ :: _, h => h.elim
  | _ :: _, [], h => h.elim
theorem POwn.keep {w w' : World} {base : Nat} {S : Nat → Prop} (hf : Fr S w w') : ∀ {vs : List Value} {ls : List (List UInt8)}, POwn w base vs ls → (∀ v n l, Own w base 5 1 v n (bs l) → ∀ k, OwnB v k → ¬ S k) → POwn w' base vs ls
  | [], [], _, _ => trivial
  | _ :: _, _ :: _, h, hs => ⟨h.1.keep hf (hs _ _ _ h.1), POwn.keep hf h.2 hs⟩
  | [], _ :: _, h, _ => h.elim
  | _ :: _, [], h, _ => h.elim
theorem POwn.still {w w' : World} {base : Nat} {vs : List Value} {ls : List (List UInt8)} (h : POwn w base vs ls) (hf : Fr Nob w w') : POwn w' base vs ls := POwn.keep hf h (fun _ _ _ _ _ _ t => t)
theorem POwn.app {w w' : World} {base base' sz n : Nat} {vs : List Value} {ls : List (List UInt8)} (h : POwn w base vs ls) {q : Value} {T : TypeId} {L : List Value} (hq : Own w base' T sz q n L) (hT : 5 ≠ T) (hf : Fr (OwnB q) w w') : POwn w' base vs ls :=
  POwn.keep hf h (fun _ _ _ ho k hk hk' => ho.ne2 hq hT k hk hk')
theorem POwn.snoc {w : World} {base : Nat} {v : Value} {l : List UInt8} (hv : Own w base 5 1 v l.length (bs l)) : ∀ {vs : List Value} {ls : List (List UInt8)}, POwn w base vs ls → POwn w base (vs ++ [v]) (ls ++ [l])
  | [], [], _ => ⟨hv, trivial⟩
  | _ :: _, _ :: _, h => ⟨h.1, POwn.snoc hv h.2⟩
  | [], _ :: _, h => h.elim
  | _ :: _, [], h => h.elim
theorem POwn.parts {w : World} {base : Nat} : ∀ {vs : List Value} {ls : List (List UInt8)}, POwn w base vs ls → (∀ x ∈ ls, x.length ≤ 1000000) → Parts w vs ls
  | [], [], _, _ => trivial
  | _ :: _, _ :: _, h, hx => ⟨own_part h.1 (hx _ (by simp)), POwn.parts h.2 (fun x hxm => hx x (by simp [hxm]))⟩
  | [], _ :: _, h, _ => h.elim
  | _ :: _, [], h, _ => h.elim
/-- a list of lists of bytes, all of the call's own -/
def LOwn (w : World) (base : Nat) (v : Value) (ls : List (List UInt8)) : Prop := ∃ vs, Own w base 22 1 v ls.length vs ∧ POwn w base vs ls
theorem LOwn.still {w w' : World} {base : Nat} {v : Value} {ls : List (List UInt8)} (h : LOwn w base v ls) (hf : Fr Nob w w') : LOwn w' base v ls := by
  obtain ⟨vs, h1, h2⟩ := h; exact ⟨vs, h1.still hf, h2.still hf⟩
theorem LOwn.parts {w : World} {base : Nat} {v : Value} {ls : List (List UInt8)} (h : LOwn w base v ls) (hx : ∀ x ∈ ls, x.length ≤ 1000000) : ∃ a c, v = .slice a ls.length c ∧ ls.length ≤ c ∧ PartsAt w a ls := by
  obtain ⟨vs, h1, h2⟩ := h
  obtain ⟨a, c, rfl, hc, hr, -⟩ := h1.form
  rw [Nat.mul_one] at hr
  exact ⟨a, c, rfl, hc, vs, hr, (h2.parts hx).get⟩

end Go.Proofs.Ytdadnajbdnbbdaa

/- bytes.Clone; lists of owned slices of bytes that lie apart. -/
namespace Go.Proofs.Ytdadnajbdnbbdaa
open Go.RowKit Go.Mv Mvp Mvt
theorem info_u8c : (Try.prog.info? 5).map (fun i => (i.zero, i.size, i.bytes)) = some (some (.int .u8 0), 1, 1) := by kernel_rfl

set_option maxHeartbeats 1000000 in
set_option maxRecDepth 1000000 in
theorem bclone_any (a : Option Addr) (n c : Nat) (l : List UInt8) (w : World) (hn : n ≤ 1000000) (hb : RdB w a n l) :
    Calls Try.prog 31 #[.slice a n c] w fun e w' => ∃ v, e = .returned v ∧ Own w' w.heap.size 5 1 v (if a.isNone then 0 else n) (bs (if a.isNone then [] else l)) ∧ Fr Nob w w' := by
  have hq : ∀ (w : World), (binOp .eql 22 (.slice a n c) (.slice none 0 0)).run Try.prog w = .ok (.bool a.isNone) w := fun w => Lib.run_eql_slice_nil w _ _ a n c 0 0 Try.underlying22
  cases a with
  | none =>
    go_enter Try.func31, Try.ntmps31
    go_wp2_with fail
    go_ret
    exact ⟨_, rfl, Own.nil _ _ _ _, Fr.refl _ _⟩
  | some a =>
    go_enter Try.func31, Try.ntmps31
    go_wp2_with (with_reducible refine wl_stop (o := ⟨some 7, _, _, _, _, _⟩) ?_)
    unfold Stop
    have hf1 : Fr Nob w (w.alloc (.cells #[] 5)) := (Fr.refl Nob w).alloc _
    have hown1 : Own (w.alloc (.cells #[] 5)) w.heap.size 5 1 (.slice (some ⟨w.heap.size, 0, none⟩) 0 0) 0 [] := Own.made (Has.new w #[] 5) w.heap.size (Nat.le_refl _) 1 0 0 (Nat.le_refl _) (by decide) (by simp)
    refine wl_append rfl rfl Try.underlying22 info_u8c rfl (by decide) hown1 rfl rfl (by rw [Nat.mul_one]; exact hb.still hf1) (bs_one _) (by unfold maxLen; omega) (by omega) hf1.size ?_
    intro v3 w3 hown3 hf3 hb3
    have hfr := hown1.fr hf1 (Nat.le_refl _) hf3
    rw [Nat.zero_add, List.nil_append] at hown3
    clear hf3 hown1 hf1 hb3
    generalize hgw : w.heap.size = g at *
    have HG := Lib.hid hgw; clear hgw
    go_wp2_with fail
    go_ret
    rw [HG.out]
    exact ⟨_, rfl, hown3, hfr⟩
theorem bclone_some (a : Addr) (n c : Nat) (l : List UInt8) (w : World) (hn : n ≤ 1000000) (hb : RdB w (some a) n l) :
    Calls Try.prog 31 #[.slice (some a) n c] w fun e w' => ∃ v, e = .returned v ∧ Own w' w.heap.size 5 1 v n (bs l) ∧ Fr Nob w w' := bclone_any (some a) n c l w hn hb

/-- no two of them share a block -/
def Sep (vs : List Value) : Prop := vs.Pairwise fun a b => ∀ k, OwnB a k → ¬ OwnB b k
theorem Sep.nil : Sep [] := List.Pairwise.nil
theorem POwn.get {w : World} {base : Nat} : ∀ {vs : List Value} {ls : List (List UInt8)}, POwn w base vs ls → ∀ (i : Nat) (v : Value), vs[i]? = some v → ∃ l, ls[i]? = some l ∧ Own w base 5 1 v l.length (bs l)
  | [], [], _, i, v, hv => by simp at hv
  | a :: vs, l :: ls, h, 0, v, hv => by simp at hv; subst hv; exact ⟨l, rfl, h.1⟩
  | a :: vs, l :: ls, h, i + 1, v, hv => by simp at hv; obtain ⟨l', h1, h2⟩ := POwn.get h.2 i v hv; exact ⟨l', by simpa using h1, h2⟩
  | [], _ :: _, h, _, _, _ => h.elim
  | _ :: _, [], h, _, _, _ => h.elim
theorem POwn.mem {w : World} {base : Nat} {vs : List Value} {ls : List (List UInt8)} (h : POwn w base vs ls) {v : Value} (hv : v ∈ vs) : ∃ l, l ∈ ls ∧ Own w base 5 1 v l.length (bs l) := by
  obtain ⟨i, hi⟩ := List.getElem?_of_mem hv
  obtain ⟨l, h1, h2⟩ := h.get i v hi
  exact ⟨l, List.mem_of_getElem? h1, h2⟩
theorem Sep.snoc {w w' : World} {base : Nat} {vs : List Value} {ls : List (List UInt8)} (h : Sep vs) (hp : POwn w base vs ls) {v : Value} {n : Nat} {L : List Value} {T : TypeId} (hv : Own w' w.heap.size T 1 v n L) : Sep (vs ++ [v]) := by
  unfold Sep at *
  rw [List.pairwise_append]
  refine ⟨h, by simp, fun a ha b hb k hk hk' => ?_⟩
  simp only [List.mem_singleton] at hb
  subst hb
  obtain ⟨l, _, ho⟩ := hp.mem ha
  have h1 := (ho.lt hk).2
  have h2 := (hv.lt hk').1
  omega
theorem POwn.mono {w : World} {base base' : Nat} (hb : base' ≤ base) : ∀ {vs : List Value} {ls : List (List UInt8)}, POwn w base vs ls → POwn w base' vs ls
  | [], [], _ => trivial
  | _ :: _, _ :: _, h => ⟨h.1.mono hb, POwn.mono hb h.2⟩
  | [], _ :: _, h => h.elim
  | _ :: _, [], h => h.elim
/-- a slice of slices of bytes, all of the call's own, apart -/
def SOwn (w : World) (base : Nat) (v : Value) (ls : List (List UInt8)) : Prop := ∃ vs, Own w base 22 1 v ls.length vs ∧ POwn w base vs ls ∧ Sep vs
theorem SOwn.nil (w : World) (base : Nat) : SOwn w base (.slice none 0 0) [] := ⟨[], Own.nil _ _ _ _, trivial, Sep.nil⟩
theorem SOwn.still {w w' : World} {base : Nat} {v : Value} {ls : List (List UInt8)} (h : SOwn w base v ls) (hf : Fr Nob w w') : SOwn w' base v ls := by
  obtain ⟨vs, h1, h2, h3⟩ := h; exact ⟨vs, h1.still hf, h2.still hf, h3⟩
end Go.Proofs.Ytdadnajbdnbbdaa

/- The reference's Apart: of lists that lie apart it returns true. -/
namespace Go.Proofs.Ytdadnajbdnbbdaa
open Go.RowKit Go.Mv Mvp
/-- each byte one more -/
def inc (l : List UInt8) : List UInt8 := l.map (· + 1)
theorem inc_len (l : List UInt8) : (inc l).length = l.length := by simp [inc]
/-- the first i lists are incremented, of the next one the first j bytes -/
def incd (ls : List (List UInt8)) (i j : Nat) : List (List UInt8) := (ls.take i).map inc ++ ((fill (inc (ls.getD i [])) (ls.getD i []) j) :: ls.drop (i + 1)).take (ls.length - i)
theorem incd_zero (ls : List (List UInt8)) : incd ls 0 0 = ls := by
  cases ls with
  | nil => rfl
  | cons a l => simp [incd, fill_zero]
theorem incd_next (ls : List (List UInt8)) (i : Nat) (hi : i < ls.length) : incd ls i (ls.getD i []).length = incd ls (i + 1) 0 := by
  unfold incd
  rw [fill_all _ _ _ (inc_len _) (by rw [inc_len]; exact Nat.le_refl _), fill_zero, List.take_succ_eq_append_getElem hi, List.map_append, List.append_assoc]
  congr 1
  have e : ls.getD i [] = ls[i] := by simp [List.getD_eq_getElem?_getD, hi]
  rw [e, show ls.length - i = (ls.length - i - 1) + 1 by omega, List.take_succ_cons]
  simp only [List.map_cons, List.map_nil, List.singleton_append]
  congr 1
  rw [List.take_of_length_le (by rw [List.length_drop]; omega)]
  rcases Nat.lt_or_ge (i + 1) ls.length with h | h
  · have e2 : ls.getD (i + 1) [] = ls[i + 1] := by simp [List.getD_eq_getElem?_getD, h]
    rw [e2, ← List.drop_eq_getElem_cons h, List.take_of_length_le (by rw [List.length_drop]; omega)]
  · rw [List.drop_eq_nil_of_le h, show ls.length - (i + 1) = 0 by omega]; rfl
theorem incd_all (ls : List (List UInt8)) : incd ls ls.length 0 = ls.map inc := by
  unfold incd
  rw [Nat.sub_self, List.take_zero, List.append_nil, List.take_length]
theorem incd_set (ls : List (List UInt8)) (i j : Nat) (hi : i < ls.length) (hj : j < (ls.getD i []).length) : (incd ls i j).set i ((fill (inc (ls.getD i [])) (ls.getD i []) j).set j ((inc (ls.getD i [])).getD j 0)) = incd ls i (j + 1) := by
  unfold incd
  rw [fill_set _ _ _ (inc_len _) (by rw [inc_len]; exact hj)]
  have e : ((ls.take i).map inc).length = i := by rw [List.length_map, List.length_take]; omega
  rw [List.set_append_right _ _ (by omega), e, Nat.sub_self, show ls.length - i = (ls.length - i - 1) + 1 by omega, List.take_succ_cons, List.take_succ_cons, List.set_cons_zero]
theorem incd_get (ls : List (List UInt8)) (i j : Nat) (hi : i < ls.length) : (incd ls i j)[i]? = some (fill (inc (ls.getD i [])) (ls.getD i []) j) := by
  unfold incd
  have e : ((ls.take i).map inc).length = i := by rw [List.length_map, List.length_take]; omega
  rw [List.getElem?_append_right (by omega), e, Nat.sub_self, show ls.length - i = (ls.length - i - 1) + 1 by omega, List.take_succ_cons]
  rfl

theorem Sep.ne {vs : List Value} (h : Sep vs) {i j : Nat} {a b : Value} (hi : vs[i]? = some a) (hj : vs[j]? = some b) (hij : i ≠ j) (k : Nat) (hk : OwnB a k) : ¬ OwnB b k := by
  unfold Sep at h
  rw [List.pairwise_iff_getElem] at h
  obtain ⟨h1, rfl⟩ := List.getElem?_eq_some_iff.1 hi
  obtain ⟨h2, rfl⟩ := List.getElem?_eq_some_iff.1 hj
  rcases Nat.lt_or_gt_of_ne hij with h3 | h3
  · exact h i j h1 h2 h3 k hk
  · exact fun hk' => h j i h2 h1 h3 k hk' hk
theorem POwn.keepAt {w w' : World} {base : Nat} {S : Nat → Prop} (hf : Fr S w w') : ∀ {vs : List Value} {ls : List (List UInt8)}, POwn w base vs ls → (∀ (j : Nat) (v : Value), vs[j]? = some v → ∀ k, OwnB v k → ¬ S k) → POwn w' base vs ls
  | [], [], _, _ => trivial
  | v :: vs, l :: ls, h, hs => ⟨h.1.keep hf (hs 0 v rfl), POwn.keepAt hf h.2 (fun j u hu => hs (j + 1) u (by simpa using hu))⟩
  | [], _ :: _, h, _ => h.elim
  | _ :: _, [], h, _ => h.elim
/-- one of the lists has turned -/
theorem POwn.upd {w w' : World} {base : Nat} {S : Nat → Prop} (hf : Fr S w w') : ∀ {vs : List Value} {ls : List (List UInt8)} (i : Nat) (l' : List UInt8), POwn w base vs ls → (∀ v, vs[i]? = some v → Own w' base 5 1 v l'.length (bs l')) → (∀ (j : Nat) (v : Value), j ≠ i → vs[j]? = some v → ∀ k, OwnB v k → ¬ S k) → POwn w' base vs (ls.set i l')
  | [], [], i, l', _, _, _ => trivial
  | v :: vs, l :: ls, 0, l', h, hv, hs => ⟨hv v rfl, POwn.keepAt hf h.2 (fun j u hu => hs (j + 1) u (by omega) (by simpa using hu))⟩
  | v :: vs, l :: ls, i + 1, l', h, hv, hs => ⟨h.1.keep hf (hs 0 v (by omega) rfl), POwn.upd hf i l' h.2 (fun u hu => hv u (by simpa using hu)) (fun j u hj hu => hs (j + 1) u (by omega) (by simpa using hu))⟩
  | [], _ :: _, _, _, h, _, _ => h.elim
  | _ :: _, [], _, _, h, _, _ => h.elim
end Go.Proofs.Ytdadnajbdnbbdaa

/- The reference's Apart: the first two loops. -/
namespace Go.Proofs.Ytdadnajbdnbbdaa
open Go.RowKit Go.Mv Mvp
/-- what lies above a base -/
def Up (base : Nat) : Nat → Prop := fun k => base ≤ k
theorem byte_inc (y : UInt8) : ((y.toNat : Int) + 1) % 256 = ((y + 1).toNat : Int) := by simp
/-- the lists as they stand: a slice of slices, all of the call's own, apart -/
structure ApAt (w0 : World) (base n : Nat) (lv : Value) (vs : List Value) (st : List (List UInt8)) (w : World) : Prop where
  l : Own w base 22 1 lv n vs
  p : POwn w base vs st
  f : Fr (Up base) w0 w
theorem ApAt.still {w0 w w' : World} {base n : Nat} {lv : Value} {vs : List Value} {st : List (List UInt8)} (h : ApAt w0 base n lv vs st w) (hf : Fr Nob w w') : ApAt w0 base n lv vs st w' :=
  ⟨h.l.still hf, h.p.still hf, h.f.same hf⟩
theorem ApAt.at {w0 w : World} {base n : Nat} {lv : Value} {vs : List Value} {st : List (List UInt8)} (h : ApAt w0 base n lv vs st w) {i : Nat} (hi : i < n) :
    ∃ g o c x, lv = .slice (some ⟨g, o, none⟩) n c ∧ vs[i]? = some x ∧ w.cell? ⟨g, o + i, none⟩ = some x ∧ Own w base 5 1 x (st.getD i []).length (bs (st.getD i [])) := by
  obtain ⟨a, c, rfl, _, hr, -⟩ := h.l.form
  rw [Nat.mul_one] at hr
  have hvl := hr.len
  obtain ⟨b, o, rfl, hat⟩ := hr.at (by omega)
  obtain ⟨l, h3, h4⟩ := h.p.get i vs[i] (List.getElem?_eq_getElem (by omega))
  have e : st.getD i [] = l := by rw [List.getD_eq_getElem?_getD, h3]; rfl
  rw [e]
  exact ⟨b, o, c, vs[i], rfl, List.getElem?_eq_getElem (by omega), hat i _ (List.getElem?_eq_getElem (by omega)), h4⟩
/-- one list has turned, in its own block -/
theorem ApAt.upd {w0 w w' : World} {base n : Nat} {lv : Value} {vs : List Value} {st : List (List UInt8)} (h : ApAt w0 base n lv vs st w) (hs : Sep vs) {i : Nat} {x : Value} (hx : vs[i]? = some x) {l l' : List UInt8} (ho : Own w base 5 1 x l.length (bs l)) (hf : Fr (OwnB x) w w') (ho' : Own w' base 5 1 x l'.length (bs l')) :
    ApAt w0 base n lv vs (st.set i l') w' := by
  refine ⟨h.l.keep hf (fun k hk hk' => h.l.ne2 ho (by decide) k hk hk'), POwn.upd hf i l' h.p (fun v hv => by rw [hx] at hv; cases hv; exact ho') (fun j v hj hv k hk hk' => hs.ne hv hx hj k hk hk'), h.f.trans hf (fun k _ t => (ho.lt t).1)⟩

/-- the bytes that item i is grown by -/
def tl (i : Nat) : List UInt8 := (List.range 80).map fun j => UInt8.ofNat ((i * 37 + j) % 253) ^^^ 90
theorem tl_len (i : Nat) : (tl i).length = 80 := by simp [tl]
theorem tl_get (i j : Nat) (h : j < 80) : (tl i).getD j 0 = UInt8.ofNat ((i * 37 + j) % 253) ^^^ 90 := by simp [tl, List.getD_eq_getElem?_getD, h]
theorem tl_take (i j : Nat) (h : j < 80) : (tl i).take (j + 1) = (tl i).take j ++ [UInt8.ofNat ((i * 37 + j) % 253) ^^^ 90] := by
  rw [List.take_succ_eq_append_getElem (by rw [tl_len]; exact h), ← tl_get i j h]
  simp [List.getD_eq_getElem?_getD, tl_len, h]
theorem tl_val (k j : Nat) : bits BinOp.xor IntKind.u8 (((k : Int) * 37 + (j : Int)) % 253) 90 = (((k * 37 + j) % 253 % 256 ^^^ 90 : Nat) : Int) := by
  have e1 : (((k : Int) * 37 + (j : Int)) % 253) = (((k * 37 + j) % 253 : Nat) : Int) := by omega
  have h := Nat.mod_lt (k * 37 + j) (show 0 < 253 by decide)
  rw [e1]
  generalize (k * 37 + j) % 253 = z at *
  have e2 := u8_xor_nat z 90 (by omega) (by omega)
  rw [show (90 : Int) = ((90 : Nat) : Int) from rfl, e2, Nat.mod_eq_of_lt (show z < 256 by omega)]
def grw (ls : List (List UInt8)) (i : Nat) : List (List UInt8) := (List.range i).map fun k => inc (ls.getD k []) ++ tl k
theorem grw_succ (ls : List (List UInt8)) (i : Nat) : grw ls (i + 1) = grw ls i ++ [inc (ls.getD i []) ++ tl i] := by simp [grw, List.range_succ]
theorem grw_get (ls : List (List UInt8)) (i k : Nat) (h : k < i) : (grw ls i).getD k [] = inc (ls.getD k []) ++ tl k := by simp [grw, List.getD_eq_getElem?_getD, h]
/-- the front of an owned slice is owned -/
theorem Own.front {w : World} {base : Nat} {T : TypeId} {g o n m cap : Nat} {L M : List Value} (h : Own w base T 1 (.slice (some ⟨g, o, none⟩) (n + m) cap) (n + m) (L ++ M)) (hL : L.length = n) : Own w base T 1 (.slice (some ⟨g, o, none⟩) n cap) n L := by
  obtain ⟨h1, h | ⟨g', o', cap', B, hv, h2, h3, h4, h5, h6, h7⟩⟩ := h
  · cases h.1
  · simp only [Value.slice.injEq, Option.some.injEq, Addr.mk.injEq, and_true, true_and] at hv
    obtain ⟨⟨rfl, rfl⟩, rfl⟩ := hv
    refine ⟨by omega, .inr ⟨g, o, cap, B, rfl, h2, h3, by omega, h5, h6, ?_⟩⟩
    have := congrArg (fun l => l.take n) h7
    simp only [List.take_take] at this
    rw [List.take_left' hL, Nat.mul_one, Nat.min_eq_left (by omega)] at this
    rw [Nat.mul_one]; exact this
/-- what is being grown: where it began, or in a block that is new -/
def Grows (w : World) (x gv : Value) (n j : Nat) : Prop := (∃ g o cap, x = .slice (some ⟨g, o, none⟩) n cap ∧ gv = .slice (some ⟨g, o, none⟩) (n + j) cap) ∨ (∀ b, OwnB gv b → w.heap.size ≤ b)
theorem Grows.start (w : World) (x : Value) (a : Option Addr) (n c : Nat) (h : x = .slice a n c) (ha : ∀ y, a = some y → y.spot = none) : Grows w x x n 0 := by
  subst h
  cases a with
  | none => exact .inr (fun b hb => by cases hb)
  | some y =>
    obtain ⟨g, o, sp⟩ := y
    have : sp = none := ha _ rfl
    subst this
    exact .inl ⟨g, o, c, rfl, rfl⟩
theorem Grows.blk {w : World} {x gv : Value} {n j : Nat} (h : Grows w x gv n j) (b : Nat) (hb : OwnB gv b) : OwnB x b ∨ w.heap.size ≤ b := by
  rcases h with ⟨g, o, cap, rfl, rfl⟩ | h
  · exact .inl hb
  · exact .inr (h b hb)
theorem Grows.step {wi w w' : World} {base n j : Nat} {x gv v' : Value} {L M : List UInt8} (h : Grows wi x gv n j) (hx : Own w base 5 1 x n (bs L)) (hxi : ∀ b, OwnB x b → b < wi.heap.size) (hf0 : Fr (OwnB x) wi w)
    (ho' : Own w' base 5 1 v' (n + j + 1) (bs (L ++ M))) (hf : Fr (OwnB gv) w w')
    (hc : ((∃ x o cap, gv = .slice (some ⟨x, o, none⟩) (n + j) cap ∧ v' = .slice (some ⟨x, o, none⟩) (n + j + 1) cap) ∨ ((1 : Nat) = 0 ∧ v' = gv)) ∨ (v'.ownBlock = some w.heap.size ∧ Fr Nob w w')) :
    Grows wi x v' n (j + 1) ∧ Own w' base 5 1 x n (bs L) ∧ Fr (OwnB x) wi w' := by
  rw [bs_append] at ho'
  have hfr : Fr (OwnB x) wi w' := hf0.trans hf (fun i hi t => (h.blk i t).resolve_right (by omega))
  have hsz := hf0.size
  have hLn : (bs L).length = n := by have := hx.1; omega
  rcases hc with (⟨g, o, cap, rfl, rfl⟩ | ⟨h0, -⟩) | ⟨h1, h2⟩
  · rcases h with ⟨g', o', cap', rfl, hv⟩ | h
    · simp only [Value.slice.injEq, Option.some.injEq, Addr.mk.injEq, and_true, true_and] at hv
      obtain ⟨⟨rfl, rfl⟩, rfl⟩ := hv
      exact ⟨.inl ⟨_, _, _, rfl, rfl⟩, Own.front (m := j + 1) ho' hLn, hfr⟩
    · refine ⟨.inr h, hx.keep hf (fun k hk hk' => ?_), hfr⟩
      have h3 := h k hk'
      have h4 := hxi k hk
      omega
  · omega
  · refine ⟨.inr (fun b hb => ?_), hx.still h2, hfr⟩
    have : w.heap.size = b := by
      have hb' : v'.ownBlock = some b := hb
      rw [h1] at hb'
      exact Option.some.inj hb'
    omega

/-- a byte of a text, wherever -/
theorem run_byte {P : Program} {t : TypeId} (ht : P.underlying t = some .string) (q : ByteArray) (k : Nat) (hk : k < q.size) (y : UInt8) (hy : q.data.toList.getD k 0 = y) (w : World) : (Instr.index t (.string q) (.int .i64 (k : Int))).run P w = .ok (.int .u8 (y.toNat : Int)) w := by
  have he : q[k]? = some y := by
    have h1 : q[k]? = some q[k] := getElem?_pos q k hk
    rw [h1]
    congr 1
    rw [← hy, List.getD_eq_getElem?_getD, List.getElem?_eq_getElem (by simpa using hk)]
    simp
    rfl
  simp [Instr.index, asIntOf, run_underlying ht, he]

set_option maxHeartbeats 4000000 in
set_option maxRecDepth 1000000 in
theorem apart_any (lv : Value) (base n : Nat) (vs : List Value) (ls : List (List UInt8)) (w : World) (hown : Own w base 22 1 lv n vs) (hpo : POwn w base vs ls) (hsep : Sep vs) (hn : n ≤ 100000) (hx : ∀ x ∈ ls, x.length ≤ 1000000) (hbase : base ≤ w.heap.size) :
    Calls Try.prog 14 #[lv] w fun e w' => e = .returned (.bool true) ∧ Fr (Up base) w w' := by
  have hln : ls.length = n := by
    have h1 := hpo.len
    have h2 := hown.1
    omega
  have hA0 : ApAt w base n lv vs ls w := ⟨hown, hpo, Fr.refl _ _⟩
  have HLB := Lib.hid (fun b (hb : OwnB lv b) => (hown.lt hb).2)
  obtain ⟨a0, c0, rfl, hc0, -⟩ := id hown.form
  have hxg : ∀ i, i < n → (ls.getD i []).length ≤ 1000000 := fun i hi => by
    rw [List.getD_eq_getElem?_getD, List.getElem?_eq_getElem (by omega)]
    exact hx _ (List.getElem_mem _)
  have HXG := Lib.hid hxg
  have HLN := Lib.hid hln
  have HSEP := Lib.hid hsep
  clear hown hpo hx hxg hln hsep
  go_enter Try.func14, Try.ntmps14
  go_wp2_with fail
  go_loopw [4, 3] (fun i q wr => ∃ j : Nat, j ≤ n ∧ i = .int .i64 (j : Int) ∧ Own wr w.heap.size 9 1 q j (ss (ls.take j)) ∧ Fr Nob w wr) (fun i _ _ => (n - intOf i).toNat)
  case atStart => exact ⟨0, by omega, rfl, Own.nil _ _ _ _, Fr.refl _ _⟩
  case round =>
    obtain ⟨j, hj, rfl, hown, hfr⟩ := hrel
    by_cases hlt : j < n
    · have hltI : (j : Int) < (n : Int) := by omega
      obtain ⟨g, o, cc, x, hv, hvx, hc, hox⟩ := (hA0.still hfr).at hlt
      simp only [Value.slice.injEq] at hv
      obtain ⟨rfl, -, rfl⟩ := hv
      have htk : ss (ls.take (j + 1)) = ss (ls.take j) ++ [.string (mkS (ls.getD j []))] := by
        have h := HLN.out
        unfold ss
        rw [List.take_succ_eq_append_getElem (by omega), List.map_append]
        congr 1
        simp [List.getD_eq_getElem?_getD, show j < ls.length by omega]
      have HTK := Lib.hid htk; clear htk
      generalize ls.getD j [] = l at *
      obtain ⟨ax, cx, rfl, -, hrx, -⟩ := id hox.form
      rw [Nat.mul_one] at hrx
      have hrb : RdB wr ax l.length l := hrx
      have x1 := run_string (P := Try.prog) hrb cx Try.underlying22 Try.underlying5 Try.underlying9
      clear hox hrx hvx
      go_wp2_with (with_reducible refine wl_stop (o := ⟨some 26, _, _, _, _, _⟩) ?_)
      unfold Stop
      refine wl_slit rfl rfl Try.underlying56 info_str [.string (mkS l)] rfl (by simp; rfl) rfl rfl ?_
      intro w2 hh2 hf2 hz2
      clear hz2
      have hown2 := hown.still hf2
      have hfr2 := hfr.then hf2
      clear hown hfr hf2 hrb x1 hc
      generalize wr.heap.size = g1 at *
      go_wp2_with (with_reducible refine wl_stop (o := ⟨some 27, _, _, _, _, _⟩) ?_)
      unfold Stop
      refine wl_append rfl rfl Try.underlying56 info_str rfl (by decide) hown2 rfl rfl (Rd.whole hh2) (fun u hu => by simp only [List.mem_singleton] at hu; subst hu; rfl) (by unfold maxLen; omega) (by omega) hfr2.size ?_
      intro v3 w3 hown3 hf3 hb3
      clear hb3
      have hfr3 := hown2.fr hfr2 (Nat.le_refl _) hf3
      have hown4 : Own w3 w.heap.size 9 1 v3 (j + 1) (ss (ls.take (j + 1))) := by rw [HTK.out]; exact hown3
      clear hown2 hfr2 hf3 hown3 hh2
      go_wp2_with fail
      go_roundw
      case rel => exact ⟨j + 1, by omega, by go_num, hown4, hfr3⟩
      case measure => simp [intOf]; omega
    · have hge : ¬ (j : Int) < (n : Int) := by omega
      obtain rfl : j = n := by omega
      rw [List.take_of_length_le (by rw [HLN.out]; exact Nat.le_refl _)] at hown
      have hA1 := hA0.still hfr
      have hbw := hfr.size
      rw [← incd_zero ls] at hA1
      clear hA0 hfr
      obtain ⟨w1, hw1⟩ : ∃ w1, w1 = wr := ⟨_, rfl⟩
      subst hw1
      go_wp2_with fail
      go_loopw [5, 6] (fun i z wr => ∃ i' : Nat, i' ≤ j ∧ i = .int .i64 (i' : Int) ∧ ApAt w base j (.slice a0 j c0) vs (incd ls i' 0) wr ∧ Own wr w.heap.size 9 1 u3 j (ss ls)) (fun i _ _ => (j - intOf i).toNat)
      case atStart => exact ⟨0, by omega, rfl, hA1, hown⟩
      case round =>
        clear hA1 hown
        obtain ⟨i, hi, rfl, hA, hws⟩ := hrel
        by_cases hin : i < j
        · have hinI : (i : Int) < (j : Int) := by omega
          have hwi : ∃ w2, w2 = wr := ⟨_, rfl⟩
          obtain ⟨w2, hw2⟩ := hwi
          subst hw2
          have hl1 := HLN.out
          have hxl := HXG.out i hin
          have hinc := inc_len (ls.getD i [])
          have hnext := incd_next ls i (by omega)
          have hset := fun k h => incd_set ls i k (by omega) h
          have hget := fun k => incd_get ls i k (by omega)
          generalize hli : ls.getD i [] = li at *
          have HLI := Lib.hid hli; clear hli
          have HINC := Lib.hid hinc; clear hinc
          have HNEXT := Lib.hid hnext; clear hnext
          have HSET := Lib.hid hset; clear hset
          have HGET := Lib.hid hget; clear hget
          clear hl1
          go_wp2_with fail
          go_loopw [6] (fun z wr => ∃ k : Nat, k ≤ li.length ∧ z = .int .i64 (k : Int) ∧ ApAt w base j (.slice a0 j c0) vs (incd ls i k) wr ∧ Own wr w.heap.size 9 1 u3 j (ss ls)) (fun z _ => (li.length - intOf z).toNat)
          case atStart => exact ⟨0, by omega, rfl, hA, hws⟩
          case round =>
            clear hA hws
            obtain ⟨k, hk, rfl, hA, hws⟩ := hrel
            obtain ⟨g, o, cc, x, hv, hvx, hc, hox⟩ := hA.at hin
            simp only [Value.slice.injEq] at hv
            obtain ⟨rfl, -, rfl⟩ := hv
            have hg := HGET.out k
            have hge : (incd ls i k).getD i [] = fill (inc li) li k := by rw [List.getD_eq_getElem?_getD, hg]; rfl
            rw [hge] at hox
            have hfl := fill_length (inc li) li k HINC.out
            rw [hfl] at hox
            clear hg hge
            obtain ⟨ax, cx, rfl, -⟩ := id hox.form
            by_cases hkl : k < li.length
            · have hklI : (k : Int) < (li.length : Int) := by omega
              obtain ⟨g', o', cap', hv', hbg, hgw, hncap, hcm, hcell, hfro, hupd⟩ := hox.cells (by omega)
              simp only [Value.slice.injEq] at hv'
              obtain ⟨rfl, -, rfl⟩ := hv'
              have hfk : (bs (fill (inc li) li k))[k]? = some (.int .u8 ((li.getD k 0).toNat : Int)) := by
                have h1 := fill_get (inc li) li k k HINC.out (Nat.le_refl _)
                rw [bs_get _ _ (by rw [hfl]; exact hkl), List.getD_eq_getElem?_getD, h1, ← List.getD_eq_getElem?_getD]
              have hcb := hcell k _ hfk
              have hfz := hfro k hkl
              have hnew : (inc li).getD k 0 = li.getD k 0 + 1 := by
                simp [inc, List.getD_eq_getElem?_getD, hkl]
              have hs2 := HSET.out k hkl
              rw [hnew] at hs2
              have hup2 := hupd k (.int .u8 ((li.getD k 0 + 1).toNat : Int)) hkl
              rw [bs_set] at hup2
              have hby := byte_inc (li.getD k 0)
              generalize li.getD k 0 = y at *
              have HS2 := Lib.hid hs2; clear hs2 hnew hfk
              have HCELL := Lib.hid hcell; clear hcell hfro
              have HUP := Lib.hid hup2; clear hup2 hupd
              have HBY := Lib.hid hby; clear hby hfl
              go_wp2_with fail
              refine wp_region_still_tail 14 (by kernel_rfl) (by kernel_rfl) ?_
              simp only [List.take_succ_cons, List.take_zero, List.drop_succ_cons, List.drop_zero]
              repeat still_step
              refine wpStill_nil ?_
              go_wp2_with fail
              rw [HBY.out]
              have hfS : Fr (OwnB (.slice (some ⟨g', o', none⟩) li.length cx)) wr (wr.setCell ⟨g', o' + k, none⟩ (.int .u8 ((y + 1).toNat : Int))) := (Fr.refl _ wr).setCell g' (o' + k) none _ (fun _ => rfl)
              have hA2 := (hA.upd HSEP.out hvx (l := fill (inc li) li k) (by rw [fill_length _ _ _ HINC.out]; exact hox) hfS (l' := (fill (inc li) li k).set k (y + 1)) (by rw [List.length_set, fill_length _ _ _ HINC.out]; exact HUP.out)).still ((Fr.refl Nob _).drew)
              rw [HS2.out] at hA2
              have hws2 := (hws.keep hfS (fun b hb hb' => hws.ne2 hox (by decide) b hb hb')).still ((Fr.refl Nob _).drew)
              clear hA hws hox hfS hcb hfz hc hvx
              generalize (wr.setCell ⟨g', o' + k, none⟩ (.int .u8 ((y + 1).toNat : Int))).drew = w9 at *
              go_roundw
              case rel => exact ⟨k + 1, by omega, by go_num, hA2, hws2⟩
              case measure => simp [intOf]; omega
            · have hklI : ¬ (k : Int) < (li.length : Int) := by omega
              obtain rfl : k = li.length := by omega
              rw [HNEXT.out] at hA
              go_wp2_with fail
              go_roundw
              case rel => exact ⟨i + 1, by omega, by go_num, hA, hws⟩
              case measure => simp [intOf]; omega
        · have hinI : ¬ (i : Int) < (j : Int) := by omega
          obtain rfl : i = j := by omega
          have hall := incd_all ls
          rw [HLN.out] at hall
          rw [hall] at hA
          clear hall
          obtain ⟨w4, hw4⟩ : ∃ w4, w4 = wr := ⟨_, rfl⟩
          subst hw4
          have hws4 := hws
          have hw04 := hA.f.size
          go_wp2_with fail
          go_loopw [8, 7, 9, 10] (fun z q g9 j9 wr => ∃ (k : Nat) (gs : List Value), k ≤ i ∧ z = .int .i64 (k : Int) ∧ Own wr w4.heap.size 22 1 q k gs ∧ POwn wr base gs (grw ls k) ∧ (∀ (s m : Nat) (g u : Value), s ≠ m → gs[s]? = some g → vs[m]? = some u → ∀ b, OwnB g b → ¬ OwnB u b) ∧ ApAt w base i (.slice a0 i c0) vs (ls.map inc) wr ∧ Own wr w.heap.size 9 1 u3 i (ss ls) ∧ w4.heap.size ≤ wr.heap.size) (fun z _ _ _ _ => (i - intOf z).toNat)
          case atStart => exact ⟨0, [], by omega, rfl, Own.nil _ _ _ _, trivial, by simp, hA, hws, Nat.le_refl _⟩
          case round =>
            clear hA hws hws4
            obtain ⟨k, gs, hk, rfl, hq, hpg, hcr, hA, hws, hsz4⟩ := hrel
            have HCR := Lib.hid hcr; clear hcr
            by_cases hlt4 : k < i
            · have hltI : (k : Int) < (i : Int) := by omega
              obtain ⟨g, o, cc, x, hv, hvx, hc, hox⟩ := hA.at hlt4
              simp only [Value.slice.injEq] at hv
              obtain ⟨rfl, -, rfl⟩ := hv
              have hl1 := HLN.out
              have hxl := HXG.out k hlt4
              have hmg : (ls.map inc).getD k [] = inc (ls.getD k []) := by simp [List.getD_eq_getElem?_getD, show k < ls.length by omega]
              rw [hmg, inc_len] at hox
              have hmk : (ls.map inc)[k]? = some (inc (ls.getD k [])) := by simp [List.getD_eq_getElem?_getD, show k < ls.length by omega]
              have hgs := grw_succ ls k
              generalize ls.getD k [] = li at *
              have HGS := Lib.hid hgs; clear hgs hmg hl1
              have HMK := Lib.hid hmk; clear hmk
              obtain ⟨wi, hwi⟩ : ∃ wi, wi = wr := ⟨_, rfl⟩
              subst hwi
              have hgstart : Grows wi x x li.length 0 := by
                rcases hox.2 with ⟨h1, h2⟩ | ⟨g', o', cap', B, h1, -⟩
                · exact Grows.start wi x none _ _ (by rw [h1, h2]) (by simp)
                · exact Grows.start wi x (some ⟨g', o', none⟩) _ _ h1 (fun y hy => by cases hy; rfl)
              have hxi : ∀ b, OwnB x b → b < wi.heap.size := fun b hb => (hox.lt hb).2
              have HXI := Lib.hid hxi; clear hxi
              have hbz := hA.f.size
              go_wp2_with fail
              go_loopw [10, 9] (fun z gv wr => ∃ j : Nat, j ≤ 80 ∧ z = .int .i64 (j : Int) ∧ Own wr base 5 1 gv (li.length + j) (bs (inc li ++ (tl k).take j)) ∧ Grows wi x gv li.length j ∧ Own wr base 5 1 x li.length (bs (inc li)) ∧ Fr (OwnB x) wi wr) (fun z _ _ => (80 - intOf z).toNat)
              case atStart => exact ⟨0, by omega, rfl, by rw [List.take_zero, List.append_nil]; exact hox, hgstart, hox, Fr.refl _ _⟩
              case round =>
                clear hgstart
                obtain ⟨j, hj80, rfl, hog, hgr, hoxr, hfx⟩ := hrel
                by_cases hj : j < 80
                · have hjI : (j : Int) < 80 := by omega
                  have htk := tl_take k j hj
                  have HTK := Lib.hid htk; clear htk
                  go_wp2_with (with_reducible refine wl_stop (o := ⟨some 79, _, _, _, _, _⟩) ?_)
                  unfold Stop
                  refine wl_one rfl rfl Try.underlying22 info_u8c (UInt8.ofNat ((k * 37 + j) % 253) ^^^ 90) ?hy ?_
                  case hy =>
                    simp [Act.eval]
                    exact tl_val k j
                  intro w5 hh5 hf5 hz5
                  clear hz5
                  have hog5 := hog.still hf5
                  have hox5 := hoxr.still hf5
                  have hfx5 := hfx.same hf5
                  have hsz5 := hf5.size
                  have hb5 : base ≤ w5.heap.size := Nat.le_trans (Nat.le_trans hbase hbz) (hfx5.size)
                  clear hog hoxr hfx hf5
                  generalize UInt8.ofNat ((k * 37 + j) % 253) ^^^ 90 = yb at *
                  go_wp2_with (with_reducible refine wl_stop (o := ⟨some 80, _, _, _, _, _⟩) ?_)
                  unfold Stop
                  refine wl_append_k rfl rfl Try.underlying22 info_u8c rfl (by decide) hog5 rfl rfl (Rd.whole hh5) (bs_one _) (by unfold maxLen; omega) (by omega) hb5 ?_
                  intro v6 w6 hog6 hf6 _ hcase6
                  have hog7 : Own w6 base 5 1 v6 (li.length + (j + 1)) (bs (inc li ++ (tl k).take (j + 1))) := by
                    rw [HTK.out, ← List.append_assoc, bs_append]; exact hog6
                  obtain ⟨hgr7, hox7, hfx7⟩ := hgr.step hox5 HXI.out hfx5 (M := (tl k).take (j + 1)) hog7 hf6 hcase6
                  clear hog5 hox5 hfx5 hog6 hf6 hcase6 hgr hh5
                  go_wp2_with fail
                  go_roundw
                  case rel => exact ⟨j + 1, by omega, by go_num, hog7, hgr7, hox7, hfx7⟩
                  case measure => simp [intOf]; omega
                · have hjI : ¬ (j : Int) < 80 := by omega
                  obtain rfl : j = 80 := by omega
                  rw [List.take_of_length_le (by rw [tl_len]; exact Nat.le_refl _)] at hog
                  have hAx : ApAt w base i (.slice (some ⟨g, o, none⟩) i c0) vs (ls.map inc) wr := by
                    have h1 := hA.upd HSEP.out hvx (l := inc li) (by rw [inc_len]; exact hox) hfx (l' := inc li) (by rw [inc_len]; exact hoxr)
                    have e : (ls.map inc).set k (inc li) = ls.map inc := by
                      obtain ⟨h3, h4⟩ := List.getElem?_eq_some_iff.1 HMK.out
                      rw [← h4, List.set_getElem_self]
                    rw [e] at h1; exact h1
                  have hgl : gs.length = k := by have := hq.1; omega
                  have hq1 := hq.keep hfx (fun b hb hb' => hq.ne2 hox (by decide) b hb hb')
                  have hws1 := hws.keep hfx (fun b hb hb' => hws.ne2 hox (by decide) b hb hb')
                  have hpg1 : POwn wr base gs (grw ls k) := POwn.keepAt hfx hpg (fun s g2 hg2 b hb hb' => HCR.out s k g2 x (by
                    have : s < gs.length := by
                      rcases Nat.lt_or_ge s gs.length with h | h
                      · exact h
                      · rw [List.getElem?_eq_none h] at hg2; cases hg2
                    omega) hg2 hvx b hb hb')
                  have hcr2 : ∀ (s m : Nat) (g2 u : Value), s ≠ m → (gs ++ [u9])[s]? = some g2 → vs[m]? = some u → ∀ b, OwnB g2 b → ¬ OwnB u b := by
                    intro s m g2 u hsm hg2 hu b hb hb'
                    rcases Nat.lt_or_ge s gs.length with h | h
                    · rw [List.getElem?_append_left h] at hg2
                      exact HCR.out s m g2 u hsm hg2 hu b hb hb'
                    · rw [List.getElem?_append_right h] at hg2
                      have h0 : s = k := by
                        rcases Nat.eq_or_lt_of_le h with h | h
                        · omega
                        · rw [List.getElem?_eq_none (by rw [List.length_singleton]; omega)] at hg2; cases hg2
                      subst h0
                      rw [hgl, Nat.sub_self] at hg2
                      simp only [List.getElem?_cons_zero, Option.some.injEq] at hg2
                      subst hg2
                      rcases hgr.blk b hb with h2 | h2
                      · exact HSEP.out.ne hvx hu hsm b h2 hb'
                      · obtain ⟨l3, _, ho3⟩ := hA.p.get m u hu
                        have := (ho3.lt hb').2
                        omega
                  have HCR2 := Lib.hid hcr2; clear hcr2
                  have hsz6 := hfx.size
                  obtain ⟨ag, cg, rfl, -⟩ := id hog.form
                  clear hq hws hpg hA hfx hox hoxr hgr hc hvx
                  go_wp2_with (with_reducible refine wl_stop (o := ⟨some 83, _, _, _, _, _⟩) ?_)
                  unfold Stop
                  refine wl_slit rfl rfl Try.underlying23 info_sl [.slice ag (li.length + 80) cg] rfl (by simp; rfl) rfl rfl ?_
                  intro w8 hh8 hf8 hz8
                  clear hz8
                  have hq8 := hq1.still hf8
                  have hws8 := hws1.still hf8
                  have hpg8 := hpg1.still hf8
                  have hA8 := hAx.still hf8
                  have hog8 := hog.still hf8
                  have hsz8 := hf8.size
                  clear hq1 hws1 hpg1 hAx hog hf8
                  go_wp2_with (with_reducible refine wl_stop (o := ⟨some 84, _, _, _, _, _⟩) ?_)
                  unfold Stop
                  refine wl_append rfl rfl Try.underlying23 info_sl rfl (by decide) hq8 rfl rfl (Rd.whole hh8) (fun u hu => by simp only [List.mem_singleton] at hu; subst hu; rfl) (by unfold maxLen; omega) (by omega) (by omega) ?_
                  intro v9 w9 hq9 hf9 hb9
                  clear hb9
                  have hws9 := hws8.keep hf9 (fun b hb hb' => hws8.ne2 hq8 (by decide) b hb hb')
                  have hog9 := hog8.keep hf9 (fun b hb hb' => hog8.ne2 hq8 (by decide) b hb hb')
                  have hpg9 : POwn w9 base (gs ++ [.slice ag (li.length + 80) cg]) (grw ls (k + 1)) := by
                    rw [HGS.out]
                    refine (hpg8.app hq8 (by decide) hf9).snoc ?_
                    rw [List.length_append, inc_len, tl_len]; exact hog9
                  have hsz9 := hf9.size
                  have hA9 : ApAt w base i (.slice (some ⟨g, o, none⟩) i c0) vs (ls.map inc) w9 := by
                    refine ⟨hA8.l.keep hf9 (fun b hb hb' => ?_), hA8.p.app hq8 (by decide) hf9, hA8.f.trans hf9 (fun b _ hb => ?_)⟩
                    · have h1 := HLB.out b hb
                      have h2 := (hq8.lt hb').1
                      omega
                    · have h2 := (hq8.lt hb).1
                      show base ≤ b
                      omega
                  clear hq8 hws8 hpg8 hA8 hog8 hf9 hh8 hog9
                  go_wp2_with fail
                  go_roundw
                  case rel => exact ⟨k + 1, _, by omega, by go_num, hq9, hpg9, HCR2.out, hA9, hws9, by omega⟩
                  case measure => simp [intOf]; omega
            · have hltI : ¬ (k : Int) < (i : Int) := by omega
              obtain rfl : k = i := by omega
              obtain ⟨w5, hw5⟩ : ∃ w5, w5 = wr := ⟨_, rfl⟩
              subst hw5
              obtain ⟨aq, cq, rfl, hcq, hrq, -⟩ := id hq.form
              rw [Nat.mul_one] at hrq
              go_wp2_with fail
              go_loopw [11, 12, 13] (fun z _ _ wr => ∃ m : Nat, m ≤ k ∧ z = .int .i64 (m : Int) ∧ Fr Nob w5 wr) (fun z _ _ _ => (k - intOf z).toNat)
              case atStart => exact ⟨0, by omega, rfl, Fr.refl _ _⟩
              case round =>
                obtain ⟨m, hm, rfl, hfw⟩ := hrel
                by_cases hmk : m < k
                · have hmI : (m : Int) < (k : Int) := by omega
                  have hl1 := HLN.out
                  have hxl := HXG.out m hmk
                  obtain ⟨g, o, cc, x, hv, hvx, hc, hox⟩ := hA.at hmk
                  simp only [Value.slice.injEq] at hv
                  obtain ⟨rfl, -, rfl⟩ := hv
                  have hmg : (ls.map inc).getD m [] = inc (ls.getD m []) := by simp [List.getD_eq_getElem?_getD, show m < ls.length by omega]
                  rw [hmg, inc_len] at hox
                  obtain ⟨bq, oq, rfl, hatq⟩ := hrq.at (by omega)
                  have hgl : gs.length = k := hrq.len
                  obtain ⟨lg, hg1, hg2⟩ := hpg.get m gs[m] (List.getElem?_eq_getElem (by omega))
                  have hcq2 := hatq m _ (List.getElem?_eq_getElem (show m < gs.length by omega))
                  have hlg : lg = inc (ls.getD m []) ++ tl m := by
                    have h1 := grw_get ls k m hmk
                    rw [List.getD_eq_getElem?_getD, hg1] at h1
                    exact h1
                  subst hlg
                  generalize gs[m] = gv at *
                  rw [List.length_append, inc_len, tl_len] at hg2
                  obtain ⟨aw, cw, rfl, _, hrw, -⟩ := id hws.form
                  rw [Nat.mul_one] at hrw
                  obtain ⟨bw, ow, rfl, hatw⟩ := hrw.at (by omega)
                  have hcw := hatw m _ (ss_get ls m (by omega))
                  generalize ls.getD m [] = li at *
                  obtain ⟨ag, cg, rfl, -, hrg, -⟩ := id hg2.form
                  rw [Nat.mul_one] at hrg
                  obtain ⟨bg, og, rfl, hatg⟩ := hrg.at (by omega)
                  obtain ⟨ax, cx, rfl, -, hrx, -⟩ := id hox.form
                  rw [Nat.mul_one] at hrx
                  have hqs : (mkS li).size = li.length := mkS_size li
                  have hqd : (mkS li).data.toList = li := mkS_toList li
                  generalize mkS li = qs at *
                  have HQD := Lib.hid hqd; clear hqd
                  have HQS := Lib.hid hqs; clear hqs
                  have hzz : (qs.size : Int) = (li.length : Int) := by rw [HQS.out]
                  have HX := Lib.hid hrx
                  have HG := Lib.hid hatg
                  have HA := Lib.hid hA
                  have HREST := Lib.hid (And.intro hws (And.intro hpg (And.intro hq hrq)))
                  clear hrx hatg hatq hatw hrw hrg hg2 hox hvx hg1 hgl hmg hA hws hpg hq hrq hl1
                  have hc1 := hfw.cell id hc
                  have hq1 := hfw.cell id hcq2
                  have hw1' := hfw.cell id hcw
                  have hwrap : IntKind.i64.wrap ((li.length : Int) + 80) = (li.length : Int) + 80 := IntWalk.i64_in _ (by omega)
                  go_wp2_with fail
                  go_quiet (fail)
                  have hf6 := hfw.drewN nq
                  clear hc1 hq1 hw1' hfw
                  generalize wr.drewN nq = w6 at *
                  go_wp2_with fail
                  go_loopw [12] (fun z wr => ∃ j : Nat, j ≤ li.length ∧ z = .int .i64 (j : Int) ∧ Fr Nob w5 wr) (fun z _ => (li.length - intOf z).toNat)
                  case atStart => exact ⟨0, by omega, rfl, hf6⟩
                  case round =>
                    clear hf6
                    obtain ⟨j, hj, rfl, hfw⟩ := hrel
                    have hc1 := hfw.cell id hc
                    have hq1 := hfw.cell id hcq2
                    have hw1' := hfw.cell id hcw
                    by_cases hjl : j < li.length
                    · have hjI : (j : Int) < (li.length : Int) := by omega
                      obtain ⟨bx, ox, rfl, hatx⟩ := HX.out.at (by omega)
                      have hby := byte_inc (li.getD j 0)
                      have hnew : (inc li).getD j 0 = li.getD j 0 + 1 := by simp [inc, List.getD_eq_getElem?_getD, hjl]
                      have hcx := hfw.cell id (hatx j _ (bs_get (inc li) j (by rw [inc_len]; exact hjl)))
                      have hcg := hfw.cell id (HG.out j _ (bs_get (inc li ++ tl m) j (by rw [List.length_append, inc_len]; omega)))
                      have hgj : (inc li ++ tl m).getD j 0 = (inc li).getD j 0 := by
                        rw [List.getD_eq_getElem?_getD, List.getElem?_append_left (by rw [inc_len]; exact hjl), ← List.getD_eq_getElem?_getD]
                      rw [hgj] at hcg
                      rw [hnew, ← hby] at hcx hcg
                      have eidx := run_byte (P := Try.prog) Try.underlying9 qs j (by rw [HQS.out]; exact hjl) (li.getD j 0) (by rw [HQD.out])
                      have hjg : (j : Int) < (li.length : Int) + 80 := by omega
                      clear hatx hby hnew hgj
                      generalize li.getD j 0 = y at *
                      go_wp2_with fail
                      go_quiet (fail)
                      have hf7 := hfw.drewN nq
                      clear hc1 hq1 hw1' hfw hcx hcg eidx
                      generalize wr.drewN nq = w7 at *
                      go_wp2_with fail
                      go_roundw
                      case rel => exact ⟨j + 1, by omega, by go_num, hf7⟩
                      case measure => simp [intOf]; omega
                    · have hjI : ¬ (j : Int) < (li.length : Int) := by omega
                      obtain ⟨w8, hw8⟩ : ∃ w8, w8 = wr := ⟨_, rfl⟩
                      subst hw8
                      clear hc1 hq1
                      go_wp2_with fail
                      clear hw1'
                      go_loopw [13] (fun z wr => ∃ j : Nat, j ≤ 80 ∧ z = .int .i64 (j : Int) ∧ Fr Nob w5 wr) (fun z _ => (80 - intOf z).toNat)
                      case atStart => exact ⟨0, by omega, rfl, hfw⟩
                      case round =>
                        clear hfw
                        obtain ⟨j, hj, rfl, hfw⟩ := hrel
                        by_cases hj80 : j < 80
                        · have hjI : (j : Int) < 80 := by omega
                          have hq1 := hfw.cell id hcq2
                          have hw1' := hfw.cell id hcw
                          have hcg := hfw.cell id (HG.out (li.length + j) _ (bs_get (inc li ++ tl m) (li.length + j) (by rw [List.length_append, inc_len, tl_len]; omega)))
                          have hgj : (inc li ++ tl m).getD (li.length + j) 0 = UInt8.ofNat ((m * 37 + j) % 253) ^^^ 90 := by
                            rw [List.getD_eq_getElem?_getD, List.getElem?_append_right (by rw [inc_len]; omega), inc_len, Nat.add_sub_cancel_left, ← List.getD_eq_getElem?_getD]
                            exact tl_get m j hj80
                          have hval : (((UInt8.ofNat ((m * 37 + j) % 253) ^^^ 90).toNat : Nat) : Int) = bits BinOp.xor IntKind.u8 (((m : Int) * 37 + (j : Int)) % 253) 90 := by
                            rw [tl_val]; simp
                          rw [hgj, hval] at hcg
                          have hw2 : IntKind.i64.wrap ((li.length : Int) + (j : Int)) = ((li.length + j : Nat) : Int) := by rw [IntWalk.i64_in _ (by omega)]; omega
                          have hw3 : IntKind.i64.wrap ((m : Int) * 37) = (m : Int) * 37 := IntWalk.i64_in _ (by omega)
                          have hw4' : IntKind.i64.wrap ((m : Int) * 37 + (j : Int)) = (m : Int) * 37 + (j : Int) := IntWalk.i64_in _ (by omega)
                          have hlt9 : (li.length : Int) + (j : Int) < (li.length : Int) + 80 := by omega
                          have ht9 : ((li.length : Int) + (j : Int)).toNat = li.length + j := by omega
                          have hp9 : (0 : Int) ≤ (li.length : Int) + (j : Int) := by omega
                          clear hval hgj
                          go_wp2_with fail
                          go_quiet (fail)
                          have hf7 := hfw.drewN nq
                          clear hq1 hw1' hfw hcg hw2 hw3 hw4' hlt9 ht9 hp9
                          generalize wr.drewN nq = w7 at *
                          go_wp2_with fail
                          go_roundw
                          case rel => exact ⟨j + 1, by omega, by go_num, hf7⟩
                          case measure => simp [intOf]; omega
                        · have hjI : ¬ (j : Int) < 80 := by omega
                          go_wp2_with fail
                          go_roundw
                          case rel => exact ⟨m + 1, by omega, by go_num, hfw⟩
                          case measure => simp [intOf]; omega
                · have hmI : ¬ (m : Int) < (k : Int) := by omega
                  have hfin := hA.f.same hfw
                  clear hA hws hpg hq hrq HCR
                  go_wp2_with fail
                  go_ret
                  exact ⟨rfl, hfin⟩
end Go.Proofs.Ytdadnajbdnbbdaa
