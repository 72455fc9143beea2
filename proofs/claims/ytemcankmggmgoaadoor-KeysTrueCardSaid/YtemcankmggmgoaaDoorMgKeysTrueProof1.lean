/- Words for memory: which blocks may have turned (Fr), a block known whole (Has), a slice that reads as a list of cells (Rd). Nothing here knows of a program; Laws of the walk for make, copy, append and conversions, over the words of Mem. Nothing here knows of a program; Plain lemmas on lists: filling a list from the left; Rules of the walk for words: what Go's operators on 64-bit words and on bytes are on UInt64 and UInt8; Whole arrays in memory: load, store, result, over the words of Mem; Literals of structs and of slices, boxes; One-cell literals of any kind; owned slices and other blocks; What a call knows of the blocks that are its own: one fact for all of them; Plain numbers: a number as words of 64 bits; sums, differences and products word by word; Words of 64 bits in memory, as natural numbers; math/bits.Add64, Sub64, Mul64; Sums and differences of words: mont.Int.minus, plus; the reference's less, plus; mont.line: a word times a number, added to the lowest words; mintvaultref2.product: the product of two numbers of four words; A region that draws its order, under a condition S on the world that holds till the last operations begin: the head (reads, calls) in an order of the prover's choice, behind it the tail (a store, as a rule) in the text's order; (mintvaultref2.F).Less: a number of eight words modulo the prime; The reference's F: Mul, Add, Neg, Sub; N: Zero, Below, Bit, Small; Plain numbers: bytes, the highest first; bits; Bytes and bits of numbers: the reference's Of, Bytes, Bit; mont's FromBytes, Bytes, Bit; mintvaultref1.Lent: the bytes of a text, at the front of a longer list; mont's and the reference's Bytes; Bit; The reference's Pow, Inv, Number, Mod; The reference's Number, Mod, Make; Plain: the two primes; Literals of n one-cell elements; loads and stores of structs by value; The reference's Make. -/
import Derived.WalkKit
import Derived.WalkLawsBesides
import Derived.WalkSpells
import Derived.Lib.Hide
import Derived.Laws.CopyOwn
import Derived.Deep.QuietTactic
import Derived.BigQuiet
import Derived.StillTailTactics
import Derived.Deep.RegionHeld3
import Derived.Deep.RegionWith
import Derived.Deep.DeepFit
import Derived.Deep.MidRow
import Derived.Laws.Tables
import Derived.Great.BuildSlice
import Derived.Shelf.Spec.BitsCarry
import Derived.Shelf.Bits.Mul64
import Derived.Test.YtemcankmggmgoaaDoorProg
import Derived.RegionTactic
import Derived.OrdersHeld
import Derived.StillTail
import Derived.KernelRfl
namespace Go.Mv
open Go.RowKit

/-- no block that was there has turned, but those of S -/
structure Fr (S : Nat → Prop) (w w' : World) : Prop where
  os : w'.os = w.os
  tape : w'.tape = w.tape
  output : w'.output = w.output
  size : w.heap.size ≤ w'.heap.size
  block : ∀ k, k < w.heap.size → ¬ S k → w'.heap[k]? = w.heap[k]?

/-- no block at all -/
def Nob : Nat → Prop := fun _ => False
/-- one block -/
def One (g : Nat) : Nat → Prop := fun k => k = g

theorem Fr.refl (S : Nat → Prop) (w : World) : Fr S w w := ⟨rfl, rfl, rfl, Nat.le_refl _, fun _ _ _ => rfl⟩
theorem Fr.trans {S T : Nat → Prop} {a b c : World} (h : Fr S a b) (k : Fr T b c) (hT : ∀ i, i < a.heap.size → T i → S i) : Fr S a c :=
  ⟨k.os.trans h.os, k.tape.trans h.tape, k.output.trans h.output, Nat.le_trans h.size k.size,
    fun i hi hs => (k.block i (Nat.lt_of_lt_of_le hi h.size) (fun t => hs (hT i hi t))).trans (h.block i hi hs)⟩
theorem Fr.mono {S T : Nat → Prop} {a b : World} (h : Fr S a b) (hT : ∀ i, i < a.heap.size → S i → T i) : Fr T a b :=
  ⟨h.os, h.tape, h.output, h.size, fun i hi hs => h.block i hi (fun t => hs (hT i hi t))⟩
/-- two calls that turn nothing -/
theorem Fr.then {a b c : World} (h : Fr Nob a b) (k : Fr Nob b c) : Fr Nob a c := h.trans k (fun _ _ t => t)
/-- what a call did to a block that is new -/
theorem Fr.new {S : Nat → Prop} {g : Nat} {a b c : World} (h : Fr S a b) (k : Fr (One g) b c) (hg : a.heap.size ≤ g) : Fr S a c :=
  h.trans k (fun i hi t => by have : i = g := t; omega)
theorem Fr.same {S : Nat → Prop} {a b c : World} (h : Fr S a b) (k : Fr Nob b c) : Fr S a c := h.trans k (fun _ _ t => t.elim)
theorem Fr.drew {S : Nat → Prop} {a b : World} (h : Fr S a b) : Fr S a b.drew := ⟨h.os, h.tape, h.output, h.size, h.block⟩
theorem Fr.drewN {S : Nat → Prop} {a b : World} (h : Fr S a b) (n : Nat) : Fr S a (b.drewN n) := ⟨h.os, h.tape, h.output, h.size, h.block⟩
theorem Fr.alloc {S : Nat → Prop} {a b : World} (h : Fr S a b) (o : Obj) : Fr S a (b.alloc o) :=
  h.trans (T := Nob) ⟨rfl, rfl, rfl, by simp, fun k hk _ => Below.heap_alloc b o k hk⟩ (fun _ _ t => t.elim)
theorem Fr.setCell {S : Nat → Prop} {a b : World} (h : Fr S a b) (g i : Nat) (s : Option Nat) (u : Value) (hg : g < a.heap.size → S g) : Fr S a (b.setCell ⟨g, i, s⟩ u) :=
  h.trans (T := One g) ⟨rfl, rfl, rfl, by simp [World.setCell], fun k _ hk => heap_setCell_other b _ k u hk⟩ (fun i hi t => by have e : i = g := t; subst e; exact hg hi)
theorem Fr.below {a b : World} (h : Fr Nob a b) : Below a.heap.size a b := ⟨h.os, h.tape, h.output, h.size, fun k hk => h.block k hk id⟩
theorem Fr.cell {S : Nat → Prop} {a b : World} (h : Fr S a b) {g i : Nat} {v : Value} (hs : ¬ S g) (hc : a.cell? ⟨g, i, none⟩ = some v) : b.cell? ⟨g, i, none⟩ = some v :=
  (World.cell?_of_block (a := ⟨g, i, none⟩) (h.block g (block_lt_of_cell hc) hs)).trans hc

/-- block g holds just the cells L, of type T, and all of them may be written -/
def Has (w : World) (g : Nat) (L : List Value) (T : TypeId) : Prop := ∃ lo hi, w.heap[g]? = some (.cells L.toArray T (lo, hi)) ∧ (lo = hi ∨ L.length ≤ lo)

theorem Has.lt {w : World} {g : Nat} {L : List Value} {T : TypeId} (h : Has w g L T) : g < w.heap.size := by
  obtain ⟨lo, hi, h, -⟩ := h
  rcases Nat.lt_or_ge g w.heap.size with k | k
  · exact k
  · simp [Array.getElem?_eq_none k] at h
theorem Has.get {w : World} {g : Nat} {L : List Value} {T : TypeId} (h : Has w g L T) (i : Nat) : w.cell? ⟨g, i, none⟩ = L[i]? := by
  obtain ⟨lo, hi, h, -⟩ := h
  rw [cell_of_row w g i _ T _ h]; simp
theorem Has.cell {w : World} {g : Nat} {L : List Value} {T : TypeId} (h : Has w g L T) {i : Nat} {v : Value} (hv : L[i]? = some v) : w.cell? ⟨g, i, none⟩ = some v := (h.get i).trans hv
theorem Has.free {w : World} {g : Nat} {L : List Value} {T : TypeId} (h : Has w g L T) (i : Nat) (hi : i < L.length) : w.frozen? ⟨g, i, none⟩ = false := by
  obtain ⟨lo, hi', h, k⟩ := h
  simp only [World.frozen?, h]
  rcases k with rfl | k
  · simp <;> omega
  · simp <;> omega
/-- a cell that may be written -/
theorem Has.ready {w : World} {g : Nat} {L : List Value} {T : TypeId} (h : Has w g L T) {i : Nat} (hi : i < L.length) : ∃ v, w.cell? ⟨g, i, none⟩ = some v ∧ w.frozen? ⟨g, i, none⟩ = false :=
  ⟨L[i], h.cell (List.getElem?_eq_getElem hi), h.free i hi⟩
theorem Has.keep {S : Nat → Prop} {w w' : World} {g : Nat} {L : List Value} {T : TypeId} (h : Has w g L T) (hf : Fr S w w') (hs : ¬ S g) : Has w' g L T := by
  have hl := h.lt
  obtain ⟨lo, hi, h, k⟩ := h
  exact ⟨lo, hi, (hf.block g hl hs).trans h, k⟩
theorem Has.set {w : World} {g : Nat} {L : List Value} {T : TypeId} (h : Has w g L T) (i : Nat) (v : Value) : Has (w.setCell ⟨g, i, none⟩ v) g (L.set i v) T := by
  have hl := h.lt
  obtain ⟨lo, hi, h, k⟩ := h
  refine ⟨lo, hi, ?_, by simpa using k⟩
  simp only [World.setCell, Array.getElem?_modify, if_true]
  simp [h]
theorem Has.other {w : World} {g g' : Nat} {L : List Value} {T : TypeId} (h : Has w g L T) (i : Nat) (s : Option Nat) (v : Value) (hn : g ≠ g') : Has (w.setCell ⟨g', i, s⟩ v) g L T := by
  obtain ⟨lo, hi, h, k⟩ := h
  exact ⟨lo, hi, (heap_setCell_other w ⟨g', i, s⟩ g v hn).trans h, k⟩
theorem Has.new (w : World) (L : Array Value) (T : TypeId) : Has (w.alloc (.cells L T)) w.heap.size L.toList T :=
  ⟨0, 0, by have := heap_alloc_new w (.cells L T); simpa using this, .inl rfl⟩
theorem Has.alloc {w : World} {g : Nat} {L : List Value} {T : TypeId} (h : Has w g L T) (o : Obj) : Has (w.alloc o) g L T := by
  have hl := h.lt
  obtain ⟨lo, hi, h, k⟩ := h
  exact ⟨lo, hi, (Below.heap_alloc w o g hl).trans h, k⟩
theorem Has.drew {w : World} {g : Nat} {L : List Value} {T : TypeId} (h : Has w g L T) : Has w.drew g L T := h
theorem Has.drewN {w : World} {g : Nat} {L : List Value} {T : TypeId} (h : Has w g L T) (n : Nat) : Has (w.drewN n) g L T := h

/-- the cells vs lie in block b from place o on -/
def At (w : World) (b o : Nat) (vs : List Value) : Prop := ∀ i v, vs[i]? = some v → w.cell? ⟨b, o + i, none⟩ = some v
/-- n cells at a read as vs (where there is none: whatever a) -/
def Rd (w : World) (a : Option Addr) (n : Nat) (vs : List Value) : Prop := vs.length = n ∧ (n = 0 ∨ ∃ b o, a = some ⟨b, o, none⟩ ∧ At w b o vs)
/-- the block of a, if it has one, is not in S -/
def Off (S : Nat → Prop) (a : Option Addr) : Prop := ∀ x, a = some x → ¬ S x.block

theorem Off.nob (a : Option Addr) : Off Nob a := fun _ _ h => h
theorem At.keep {S : Nat → Prop} {w w' : World} {b o : Nat} {vs : List Value} (h : At w b o vs) (hf : Fr S w w') (hs : ¬ S b) : At w' b o vs :=
  fun i v hv => hf.cell hs (h i v hv)
theorem Rd.keep {S : Nat → Prop} {w w' : World} {a : Option Addr} {n : Nat} {vs : List Value} (h : Rd w a n vs) (hf : Fr S w w') (hs : Off S a) : Rd w' a n vs := by
  refine ⟨h.1, h.2.imp id ?_⟩
  rintro ⟨b, o, rfl, ha⟩
  exact ⟨b, o, rfl, ha.keep hf (hs _ rfl)⟩
theorem Rd.still {w w' : World} {a : Option Addr} {n : Nat} {vs : List Value} (h : Rd w a n vs) (hf : Fr Nob w w') : Rd w' a n vs := h.keep hf (Off.nob a)
theorem Rd.nil (w : World) (a : Option Addr) : Rd w a 0 [] := ⟨rfl, .inl rfl⟩
theorem Rd.len {w : World} {a : Option Addr} {n : Nat} {vs : List Value} (h : Rd w a n vs) : vs.length = n := h.1
theorem Rd.at {w : World} {a : Option Addr} {n : Nat} {vs : List Value} (h : Rd w a n vs) (hn : 0 < n) : ∃ b o, a = some ⟨b, o, none⟩ ∧ At w b o vs := h.2.resolve_left (by omega)
theorem Rd.ofHas {w : World} {g n : Nat} {L : List Value} {T : TypeId} (h : Has w g L T) (o : Nat) (hn : o + n ≤ L.length) : Rd w (some ⟨g, o, none⟩) n ((L.drop o).take n) := by
  refine ⟨by simp; omega, .inr ⟨g, o, rfl, fun i v hv => ?_⟩⟩
  rw [h.get]
  rw [List.getElem?_take] at hv
  split at hv
  · simpa using hv
  · cases hv
theorem Rd.whole {w : World} {g : Nat} {L : List Value} {T : TypeId} (h : Has w g L T) : Rd w (some ⟨g, 0, none⟩) L.length L := by
  simpa using Rd.ofHas h 0 (n := L.length) (by simp)
theorem At.cell {w : World} {b o : Nat} {vs : List Value} (h : At w b o vs) {i : Nat} (hi : i < vs.length) : w.cell? ⟨b, o + i, none⟩ = some (vs.getD i undef) :=
  h i _ (by simp [List.getD_eq_getElem?_getD, List.getElem?_eq_getElem hi])
/-- a piece of a slice -/
theorem At.sub {w : World} {b o : Nat} {vs : List Value} (h : At w b o vs) (k n : Nat) : At w b (o + k) ((vs.drop k).take n) := by
  intro i v hv
  rw [Nat.add_assoc]
  refine h (k + i) v ?_
  rw [List.getElem?_take] at hv
  split at hv
  · simpa using hv
  · cases hv

/-- bytes, as cells -/
def bs (l : List UInt8) : List Value := l.map fun x => .int .u8 (x.toNat : Int)
theorem length_bs (l : List UInt8) : (bs l).length = l.length := by simp [bs]
theorem bs_append (l m : List UInt8) : bs (l ++ m) = bs l ++ bs m := by simp [bs]
theorem bs_take (l : List UInt8) (n : Nat) : (bs l).take n = bs (l.take n) := by simp [bs]
theorem bs_drop (l : List UInt8) (n : Nat) : (bs l).drop n = bs (l.drop n) := by simp [bs]
theorem bs_get (l : List UInt8) (i : Nat) (hi : i < l.length) : (bs l)[i]? = some (.int .u8 ((l.getD i 0).toNat : Int)) := by
  simp [bs, List.getElem?_eq_getElem hi, List.getD_eq_getElem?_getD]
theorem bs_set (l : List UInt8) (i : Nat) (x : UInt8) : (bs l).set i (.int .u8 (x.toNat : Int)) = bs (l.set i x) := by simp [bs]
theorem bs_one (l : List UInt8) : ∀ v ∈ bs l, v.oneCell' = true := by intro v hv; simp [bs] at hv; obtain ⟨x, _, rfl⟩ := hv; rfl

/-- a slice of bytes reads as l -/
def RdB (w : World) (a : Option Addr) (n : Nat) (l : List UInt8) : Prop := Rd w a n (bs l)
theorem RdB.len {w : World} {a : Option Addr} {n : Nat} {l : List UInt8} (h : RdB w a n l) : l.length = n := by have := h.1; rwa [length_bs] at this
theorem RdB.at {w : World} {a : Option Addr} {n : Nat} {l : List UInt8} (h : RdB w a n l) (hn : 0 < n) : ∃ b o, a = some ⟨b, o, none⟩ ∧ ∀ i, i < n → w.cell? ⟨b, o + i, none⟩ = some (.int .u8 ((l.getD i 0).toNat : Int)) := by
  obtain ⟨b, o, ha, hc⟩ := Rd.at h hn
  exact ⟨b, o, ha, fun i hi => hc i _ (bs_get l i (by rw [h.len]; exact hi))⟩
theorem RdB.still {w w' : World} {a : Option Addr} {n : Nat} {l : List UInt8} (h : RdB w a n l) (hf : Fr Nob w w') : RdB w' a n l := Rd.still h hf
theorem RdB.keep {S : Nat → Prop} {w w' : World} {a : Option Addr} {n : Nat} {l : List UInt8} (h : RdB w a n l) (hf : Fr S w w') (hs : Off S a) : RdB w' a n l := Rd.keep h hf hs
theorem RdB.nil (w : World) (a : Option Addr) : RdB w a 0 [] := Rd.nil w a
/-- words of 64 bits, as cells -/
def ws (l : List UInt64) : List Value := l.map fun x => .int .u64 (x.toNat : Int)
theorem length_ws (l : List UInt64) : (ws l).length = l.length := by simp [ws]
theorem ws_get (l : List UInt64) (i : Nat) (hi : i < l.length) : (ws l)[i]? = some (.int .u64 ((l.getD i 0).toNat : Int)) := by
  simp [ws, List.getElem?_eq_getElem hi, List.getD_eq_getElem?_getD]
theorem ws_set (l : List UInt64) (i : Nat) (x : UInt64) : (ws l).set i (.int .u64 (x.toNat : Int)) = ws (l.set i x) := by simp [ws]
/-- ints, as cells -/
def is (l : List Nat) : List Value := l.map fun (x : Nat) => .int .i64 (x : Int)
theorem length_is (l : List Nat) : (is l).length = l.length := by simp [is]
theorem is_get (l : List Nat) (i : Nat) (hi : i < l.length) : (is l)[i]? = some (.int .i64 ((l.getD i 0 : Nat) : Int)) := by
  simp [is, List.getElem?_eq_getElem hi, List.getD_eq_getElem?_getD]
theorem is_set (l : List Nat) (i : Nat) (x : Nat) : (is l).set i (.int .i64 (x : Int)) = is (l.set i x) := by simp [is]
end Go.Mv

/- Laws of the walk for make, copy, append and conversions, over the words of Mem. Nothing here knows of a program. -/
namespace Go.Mv
open Go.RowKit
variable {P : Program}

theorem addr_add (g o i : Nat) : (⟨g, o, none⟩ : Addr).add i = ⟨g, o + i, none⟩ := by unfold Addr.add; split <;> simp_all

theorem splice_nil (L : List Value) (o : Nat) : splice L o [] = L := by simp [splice]
theorem splice_cons (L : List Value) (o : Nat) (v : Value) (vs : List Value) (h : o < L.length) : splice (L.set o v) (o + 1) vs = splice L o (v :: vs) := by
  unfold splice
  have e1 : (L.set o v).take (o + 1) = L.take o ++ [v] := by
    rw [List.take_set, List.take_succ_eq_append_getElem h, List.set_append_right _ _ (by simp; omega), List.length_take, Nat.min_eq_left (Nat.le_of_lt h), Nat.sub_self]
    rfl
  have e2 : (L.set o v).drop (o + 1 + vs.length) = L.drop (o + 1 + vs.length) := by rw [List.drop_set, if_pos (by omega)]
  rw [e1, e2]
  simp [Nat.add_comm, Nat.add_left_comm]

theorem run_store_has {w : World} {g : Nat} {L : List Value} {T : TypeId} (h : Has w g L T) (i : Nat) (hi : i < L.length) (v : Value) (hv : v.oneCell' = true) :
    (store ⟨g, i, none⟩ v).run P w = .ok () (w.setCell ⟨g, i, none⟩ v) := by
  rw [run_store P w _ v _ hv, h.cell (List.getElem?_eq_getElem hi)]
  simp [h.free i hi]

theorem run_storeCells_has (g o : Nat) (T : TypeId) : ∀ (vs : List Value) (i : Nat) (L : List Value) (w : World), Has w g L T → o + i + vs.length ≤ L.length → (∀ v ∈ vs, v.oneCell' = true) →
    ∃ w', (storeCells ⟨g, o, none⟩ vs i).run P w = .ok () w' ∧ Has w' g (splice L (o + i) vs) T ∧ Fr (One g) w w' ∧ w'.heap.size = w.heap.size
  | [], i, L, w, h, _, _ => ⟨w, rfl, by rw [splice_nil]; exact h, Fr.refl _ _, rfl⟩
  | v :: vs, i, L, w, h, hl, h1 => by
    have hi : o + i < L.length := by simp at hl; omega
    obtain ⟨w', hr, hh, hf, hz⟩ := run_storeCells_has g o T vs (i + 1) (L.set (o + i) v) (w.setCell ⟨g, o + i, none⟩ v) (h.set _ _) (by simp at hl ⊢; omega) (fun x hx => h1 x (by simp [hx]))
    refine ⟨w', ?_, ?_, ?_, ?_⟩
    · simp only [storeCells, Sem.run_bind, addr_add, run_store_has h (o + i) hi v (h1 v (by simp)), Result.andThen_ok, hr]
    · rw [← splice_cons L (o + i) v vs hi]; exact hh
    · exact ((Fr.refl (One g) w).setCell g (o + i) none v (fun _ => rfl)).trans hf (fun _ _ t => t)
    · rw [hz]; simp [World.setCell]

theorem At.add {w : World} {b o : Nat} {vs : List Value} (h : At w b o vs) : ∀ j u, vs[j]? = some u → w.cell? ((⟨b, o, none⟩ : Addr).add j) = some u := fun j u hu => by
  rw [addr_add]; exact h j u hu

/-- the first cells of a slice that reads as vs -/
theorem run_firstCells_rd {w : World} {a : Option Addr} {vs : List Value} (size n m c : Nat) (h : At w (a.getD ⟨0, 0, none⟩).block (a.getD ⟨0, 0, none⟩).off (vs.take (n * size)) ∨ n * size = 0) (ha : 0 < n * size → ∃ b o, a = some ⟨b, o, none⟩) (hl : n * size ≤ vs.length) :
    (Builtin.firstCells size n (.slice a m c)).run P w = .ok (vs.take (n * size)).toArray w := by
  rcases Nat.eq_zero_or_pos (n * size) with h0 | h0
  · rw [h0]
    cases a with
    | none => simp [Builtin.firstCells]
    | some ad => simp [Builtin.firstCells, h0, loadCells, loadCellsFrom]
  · obtain ⟨b, o, rfl⟩ := ha h0
    have h := h.resolve_right (by omega)
    exact run_firstCells_some (P := P) w size n ⟨b, o, none⟩ m c (vs.take (n * size)) (by simp; omega) h.add

theorem run_firstCells_Rd {w : World} {a : Option Addr} {k : Nat} {vs : List Value} (h : Rd w a k vs) (size n m c : Nat) (hl : n * size ≤ k) :
    (Builtin.firstCells size n (.slice a m c)).run P w = .ok (vs.take (n * size)).toArray w := by
  refine run_firstCells_rd size n m c ?_ ?_ (by rw [h.len]; exact hl)
  · rcases Nat.eq_zero_or_pos (n * size) with h0 | h0
    · exact .inr h0
    · obtain ⟨b, o, rfl, hc⟩ := h.at (by omega)
      refine .inl fun i v hv => hc i v ?_
      rw [List.getElem?_take] at hv
      split at hv
      · exact hv
      · cases hv
  · intro h0
    obtain ⟨b, o, rfl, _⟩ := h.at (by omega)
    exact ⟨b, o, rfl⟩

/-- a slice that the call owns: nil, or n elements (sz cells each) from place o on in a block from base on, which is known whole as far as the capacity goes -/
def Own (w : World) (base : Nat) (T : TypeId) (sz : Nat) (v : Value) (n : Nat) (L : List Value) : Prop :=
  L.length = n * sz ∧ ((v = .slice none 0 0 ∧ n = 0) ∨
    ∃ g o cap B, v = .slice (some ⟨g, o, none⟩) n cap ∧ base ≤ g ∧ Has w g B T ∧ n ≤ cap ∧ cap ≤ maxLen ∧ o + cap * sz ≤ B.length ∧ (B.drop o).take (n * sz) = L)
/-- the block of an owned slice -/
def OwnB (v : Value) : Nat → Prop := fun k => v.ownBlock = some k

theorem Own.nil (w : World) (base : Nat) (T : TypeId) (sz : Nat) : Own w base T sz (.slice none 0 0) 0 [] := ⟨by simp, .inl ⟨rfl, rfl⟩⟩
theorem Own.lt {w : World} {base : Nat} {T : TypeId} {sz : Nat} {v : Value} {n : Nat} {L : List Value} (h : Own w base T sz v n L) {k : Nat} (hk : OwnB v k) : base ≤ k ∧ k < w.heap.size := by
  rcases h.2 with ⟨rfl, _⟩ | ⟨g, o, cap, B, rfl, hb, hh, _⟩
  · cases hk
  · have : g = k := by simpa [OwnB, Value.ownBlock] using hk
    subst this
    exact ⟨hb, hh.lt⟩
theorem Own.keep {S : Nat → Prop} {w w' : World} {base : Nat} {T : TypeId} {sz : Nat} {v : Value} {n : Nat} {L : List Value} (h : Own w base T sz v n L) (hf : Fr S w w') (hs : ∀ k, OwnB v k → ¬ S k) : Own w' base T sz v n L := by
  refine ⟨h.1, h.2.imp id ?_⟩
  rintro ⟨g, o, cap, B, rfl, hb, hh, r⟩
  exact ⟨g, o, cap, B, rfl, hb, hh.keep hf (hs g rfl), r⟩
theorem Own.still {w w' : World} {base : Nat} {T : TypeId} {sz : Nat} {v : Value} {n : Nat} {L : List Value} (h : Own w base T sz v n L) (hf : Fr Nob w w') : Own w' base T sz v n L := h.keep hf (fun _ _ t => t)
theorem Own.mono {w : World} {base base' : Nat} {T : TypeId} {sz : Nat} {v : Value} {n : Nat} {L : List Value} (h : Own w base T sz v n L) (hb : base' ≤ base) : Own w base' T sz v n L := by
  refine ⟨h.1, h.2.imp id ?_⟩
  rintro ⟨g, o, cap, B, rfl, hb', r⟩
  exact ⟨g, o, cap, B, rfl, Nat.le_trans hb hb', r⟩
theorem Own.form {w : World} {base : Nat} {T : TypeId} {sz : Nat} {v : Value} {n : Nat} {L : List Value} (h : Own w base T sz v n L) : ∃ a cap, v = .slice a n cap ∧ n ≤ cap ∧ Rd w a (n * sz) L ∧ (∀ x, a = some x → base ≤ x.block) := by
  rcases h.2 with ⟨rfl, rfl⟩ | ⟨g, o, cap, B, rfl, hb, hh, hn, hm, hl, ht⟩
  · refine ⟨none, 0, rfl, Nat.le_refl _, ⟨by simpa using h.1, .inl (by simp)⟩, by simp⟩
  · have hle : n * sz ≤ cap * sz := Nat.mul_le_mul_right _ hn
    refine ⟨_, cap, rfl, hn, ?_, by simpa using hb⟩
    rw [← ht]
    exact Rd.ofHas hh o (by omega)
theorem Own.made {w : World} {g : Nat} {T : TypeId} {B : List Value} (h : Has w g B T) (base : Nat) (hb : base ≤ g) (sz n cap : Nat) (hn : n ≤ cap) (hm : cap ≤ maxLen) (hl : cap * sz ≤ B.length) :
    Own w base T sz (.slice (some ⟨g, 0, none⟩) n cap) n (B.take (n * sz)) := by
  have hle : n * sz ≤ cap * sz := Nat.mul_le_mul_right _ hn
  exact ⟨by simp; omega, .inr ⟨g, 0, cap, B, rfl, hb, h, hn, hm, by omega, by simp⟩⟩
/-- behind a step that wrote to an owned block alone -/
theorem Own.fr {S : Nat → Prop} {w0 w w' : World} {base : Nat} {T : TypeId} {sz : Nat} {v : Value} {n : Nat} {L : List Value} (h : Own w base T sz v n L) (hf : Fr S w0 w) (hb : w0.heap.size ≤ base) (k : Fr (OwnB v) w w') : Fr S w0 w' :=
  hf.trans k (fun _ hi t => by have := (h.lt t).1; omega)

theorem splice_length (L : List Value) (o : Nat) (vs : List Value) (h : o + vs.length ≤ L.length) : (splice L o vs).length = L.length := length_splice L o vs h
theorem splice_take (L : List Value) (o k : Nat) (vs : List Value) (h : o + k + vs.length ≤ L.length) : ((splice L (o + k) vs).drop o).take (k + vs.length) = (L.drop o).take k ++ vs := by
  unfold splice
  have h1 : (L.take (o + k)).drop o = (L.drop o).take k := by rw [List.drop_take]; congr 1; omega
  rw [List.drop_append_of_le_length (by simp; omega), h1]
  rw [← List.append_assoc]
  exact List.take_left' (by simp; omega)

theorem run_append_room2 {w : World} (t ty e : TypeId) (i : TypeInfo) (ht : P.underlying t = some (.slice e)) (hi : P.info? e = some i)
    (g o sLen sCap : Nat) (B : List Value) (T : TypeId) (hg : Has w g B T) (a : Option Addr) (m c : Nat) (news : List Value) (hnews : Rd w a (m * i.size) news) (h1 : ∀ u ∈ news, u.oneCell' = true)
    (hroom : sLen + m ≤ sCap) (hfit : o + sLen * i.size + news.length ≤ B.length) :
    ∃ w', (Builtin.append_ #[t, t] ty #[.slice (some ⟨g, o, none⟩) sLen sCap, .slice a m c]).run P w = .ok (.slice (some ⟨g, o, none⟩) (sLen + m) sCap) w' ∧
      Has w' g (splice B (o + sLen * i.size) news) T ∧ Fr (One g) w w' ∧ w'.heap.size = w.heap.size := by
  have hf := run_firstCells_Rd (P := P) hnews i.size m m c (Nat.le_refl _)
  rw [List.take_of_length_le (by rw [hnews.len]; exact Nat.le_refl _)] at hf
  obtain ⟨w', hst, hh, hfr, hz⟩ := run_storeCells_has (P := P) g (o + sLen * i.size) T news 0 B w hg (by omega) h1
  simp only [Nat.add_zero] at hh
  refine ⟨w', ?_, hh, hfr, hz⟩
  simp [Builtin.append_, run_underlying ht, sizeOf, typeInfo, hi, Builtin.lenOf, hroom, hf, addr_add, hst]

theorem run_append_zero {w : World} (t ty e : TypeId) (i : TypeInfo) (ht : P.underlying t = some (.slice e)) (hi : P.info? e = some i) (s : Option Addr) (sLen sCap : Nat) (hl : sLen ≤ sCap) (a : Option Addr) (c : Nat) :
    (Builtin.append_ #[t, t] ty #[.slice s sLen sCap, .slice a 0 c]).run P w = .ok (.slice s sLen sCap) w := by
  have hf : (Builtin.firstCells i.size 0 (.slice a 0 c)).run P w = .ok #[] w := by
    cases a <;> simp [Builtin.firstCells, loadCells, loadCellsFrom]
  cases s <;> simp [Builtin.append_, run_underlying ht, sizeOf, typeInfo, hi, Builtin.lenOf, hl, hf, storeCells]

theorem run_append2 {w : World} (base : Nat) (t ty e : TypeId) (z : Value) (sz by_ : Nat) (ht : P.underlying t = some (.slice e)) (hi0 : (P.info? e).map (fun i => (i.zero, i.size, i.bytes)) = some (some z, sz, by_))
    (hzs : z.cells.size = sz) (hsz : 0 < sz)
    (v : Value) (n : Nat) (L : List Value) (hown : Own w base e sz v n L)
    (a : Option Addr) (m c : Nat) (news : List Value) (hnews : Rd w a (m * sz) news) (h1 : ∀ u ∈ news, u.oneCell' = true)
    (h63 : n + m ≤ maxLen) (hbytes : (n + m) * by_ ≤ 140737488355328) (hbase : base ≤ w.heap.size) :
    ∃ v' w', (Builtin.append_ #[t, t] ty #[v, .slice a m c]).run P w = .ok v' w' ∧ Own w' base e sz v' (n + m) (L ++ news) ∧ Fr (OwnB v) w w' ∧
      (v'.ownBlock = v.ownBlock ∨ v'.ownBlock = some w.heap.size) := by
  obtain ⟨i, hi, hz, hsize, hby⟩ := info_parts hi0
  subst hsize
  subst hby
  rcases Nat.eq_zero_or_pos m with rfl | hm
  · obtain ⟨s, cap, rfl, hc, -, -⟩ := hown.form
    have hn : news = [] := List.eq_nil_of_length_eq_zero (by rw [hnews.len]; simp)
    subst hn
    exact ⟨_, w, run_append_zero t ty e i ht hi s n cap hc a c, by simpa using hown, Fr.refl _ _, .inl rfl⟩
  have hms : 0 < m * i.size := Nat.mul_pos hm hsz
  obtain ⟨b, o', rfl, hat⟩ := hnews.at hms
  have hlen : (L ++ news).length = (n + m) * i.size := by rw [List.length_append, hown.1, hnews.len, Nat.add_mul]
  have hsmall : n + m ≤ 9223372036854775807 := by simp only [maxLen] at h63; omega
  have grown : ∀ (old : Nat), old < n + m →
      Own (w.drew.alloc (.cells (L.toArray ++ news.toArray ++ Builtin.zeroCells z.cells (grownCap w (n + m) old e - (n + m))) e)) base e i.size
        (.slice (some ⟨w.heap.size, 0, none⟩) (n + m) (grownCap w (n + m) old e)) (n + m) (L ++ news) ∧
      Fr (OwnB v) w (w.drew.alloc (.cells (L.toArray ++ news.toArray ++ Builtin.zeroCells z.cells (grownCap w (n + m) old e - (n + m))) e)) := by
    intro old ho
    have hge := grownCap_ge w (n + m) old e
    have hcm : grownCap w (n + m) old e ≤ maxLen := grownCap_le_maxLen w (n + m) old e h63
    have hz' : (Builtin.zeroCells z.cells (grownCap w (n + m) old e - (n + m))).size = (grownCap w (n + m) old e - (n + m)) * i.size := by simp [size_zeroCells, hzs]
    have hmul : (n + m) * i.size + (grownCap w (n + m) old e - (n + m)) * i.size = grownCap w (n + m) old e * i.size := by rw [← Nat.add_mul]; congr 1; omega
    refine ⟨⟨hlen, .inr ⟨w.heap.size, 0, _, _, rfl, hbase, Has.new w.drew _ e, hge, hcm, ?_, ?_⟩⟩, ((Fr.refl _ w).drew).alloc _⟩
    · rw [List.length_append] at hlen
      simp only [Array.toList_append, List.length_append, Array.length_toList, hz', Nat.zero_add]
      omega
    · simp only [Array.toList_append, List.drop_zero]
      rw [← hlen]
      exact List.take_left
  rcases hown.2 with ⟨rfl, rfl⟩ | ⟨g, o, cap, B, rfl, hbg, hg, hnc, hcm, hl, htake⟩
  · have hx : L = [] := List.eq_nil_of_length_eq_zero (by simpa using hown.1)
    subst hx
    have hr := run_append_nil (P := P) w t ty e i z ht hi hz ⟨b, o', none⟩ m c news hnews.len hat.add hm (by omega) (by have hb := hbytes; simp only [Nat.zero_add] at hb; omega)
    have hgr := grown 0 (by omega)
    simp only [Nat.zero_add, List.nil_append, Array.empty_append] at hgr ⊢
    exact ⟨_, _, hr, hgr.1, hgr.2, .inr rfl⟩
  · by_cases hroom : n + m ≤ cap
    · have hle : (n + m) * i.size ≤ cap * i.size := Nat.mul_le_mul_right _ hroom
      have hnl := hnews.len
      have hfit : o + n * i.size + news.length ≤ B.length := by rw [Nat.add_mul] at hle; omega
      obtain ⟨w', hr, hh, hf, hzz⟩ := run_append_room2 (P := P) t ty e i ht hi g o n cap B e hg _ m c news hnews h1 hroom hfit
      refine ⟨_, _, hr, ⟨hlen, .inr ⟨g, o, cap, _, rfl, hbg, hh, hroom, hcm, ?_, ?_⟩⟩, hf.mono (fun k _ t => by have e : k = g := t; subst e; rfl), .inl rfl⟩
      · rw [splice_length _ _ _ hfit]; exact hl
      · have := splice_take B o (n * i.size) news hfit
        rw [htake] at this
        rw [← this, hnl, Nat.add_mul]
    · have hle : n * i.size ≤ cap * i.size := Nat.mul_le_mul_right _ hnc
      have hrd : Rd w (some ⟨g, o, none⟩) (n * i.size) L := by rw [← htake]; exact Rd.ofHas hg o (by omega)
      have holds : ∀ j u, L[j]? = some u → w.cell? ((⟨g, o, none⟩ : Addr).add j) = some u := by
        rcases Nat.eq_zero_or_pos (n * i.size) with h0 | h0
        · have : L = [] := List.eq_nil_of_length_eq_zero (by rw [hown.1, h0])
          subst this; intro j u hu; simp at hu
        · obtain ⟨b2, o2, he, hc2⟩ := hrd.at h0
          simp only [Option.some.injEq, Addr.mk.injEq] at he
          obtain ⟨rfl, rfl, -⟩ := he
          exact hc2.add
      have hr := run_append_grow (P := P) w t ty e i z ht hi hz ⟨g, o, none⟩ n cap L hown.1 holds ⟨b, o', none⟩ m c news hnews.len hat.add (by omega) (by omega) (growslice_fits (by omega) hbytes)
      have hgr := grown cap (by omega)
      exact ⟨_, _, hr, hgr.1, hgr.2, .inr rfl⟩

/-- the bytes of a string, as cells -/
theorem bs_data (s : ByteArray) : bs s.data.toList = (s.data.map fun b => Value.int .u8 b.toNat).toList := by simp [bs]
theorem bs_arr (s : ByteArray) : (s.data.map fun b => Value.int .u8 b.toNat) = (bs s.data.toList).toArray := by apply Array.ext'; simp [bs]
theorem bs_len (s : ByteArray) : (bs s.data.toList).length = s.size := by simp [bs]

section
variable {w : World} {ops : Array Oper} {rest : List Oper} {o : Oper} {a : Act} {Q : Exit → Act → World → Prop}

/-- append(s, x...), x a slice -/
theorem wl_append {s x : Operand} {t : TypeId} (hgd : o.guard = none) (ho : o.op = .call { callee := .builtin .append, args := #[s, x], argTypes := #[t, t] })
    {e : TypeId} {z : Value} {sz by_ : Nat} (ht : P.underlying t = some (.slice e)) (hi0 : (P.info? e).map (fun i => (i.zero, i.size, i.bytes)) = some (some z, sz, by_))
    (hzs : z.cells.size = sz) (hsz : 0 < sz)
    {v : Value} {n base : Nat} {L : List Value} (hown : Own w base e sz v n L) (hs : a.eval s = v)
    {xa : Option Addr} {m c : Nat} {news : List Value} (hx : a.eval x = .slice xa m c) (hnews : Rd w xa (m * sz) news) (h1 : ∀ u ∈ news, u.oneCell' = true)
    (h63 : n + m ≤ maxLen) (hbytes : (n + m) * by_ ≤ 140737488355328) (hbase : base ≤ w.heap.size)
    (h : ∀ v' w', Own w' base e sz v' (n + m) (L ++ news) → Fr (OwnB v) w w' → (v'.ownBlock = v.ownBlock ∨ v'.ownBlock = some w.heap.size) → wpList P ops Q rest (a.put o.dst v') w') : wpList P ops Q (o :: rest) a w := by
  refine wpList_plain hgd fun K hK => ?_
  obtain ⟨v', w', hr, h2, h3, h4⟩ := run_append2 (P := P) base t o.type e z sz by_ ht hi0 hzs hsz v n L hown xa m c news hnews h1 h63 hbytes hbase
  unfold Oper.wp execOp
  simp only [ho, resolve, invoke, builtin, Sem.run_bind, Sem.run_pure, Result.andThen_ok, List.map_toArray, List.map_cons, List.map_nil, hs, hx, hr]
  exact hK _ _ (h v' w' h2 h3 h4)

theorem madeCells_one (z : Value) (hz : z.cells = #[z]) (n : Nat) : (madeCells z.cells n).toList = List.replicate n z := by rw [hz]; exact toList_madeCells_one z n

/-- make([]T, n), T of one cell -/
theorem wl_make {l c : Operand} {t : TypeId} (hgd : o.guard = none) (ho : o.op = .makeSlice t l c) {e : TypeId} {z : Value} {by_ : Nat} (ht : P.underlying t = some (.slice e))
    (hi0 : (P.info? e).map (fun i => (i.zero, i.size, i.bytes)) = some (some z, 1, by_)) (hzc : z.cells = #[z]) {kl kc : IntKind} {x y : Int} (hl : a.eval l = .int kl x) (hc : a.eval c = .int kc y) (n m : Nat) (hx : x = n) (hy : y = m) (hnm : n ≤ m)
    (hb : by_ * m ≤ 281474976710656) (h63 : m ≤ maxLen)
    (h : ∀ w', Has w' w.heap.size (List.replicate m z) e → Fr Nob w w' → w'.heap.size = w.heap.size + 1 → wpList P ops Q rest (a.put o.dst (.slice (some ⟨w.heap.size, 0, none⟩) n m)) w') : wpList P ops Q (o :: rest) a w := by
  refine wpList_plain hgd fun K hK => ?_
  obtain ⟨i, hi, hz, hsize, hby⟩ := info_parts hi0
  subst hx
  subst hy
  have hmx : (m : Int) ≤ 9223372036854775807 := by simp only [maxLen] at h63; omega
  have hbb : (i.bytes : Int) * (m : Int) ≤ 281474976710656 := by
    have k : ((i.bytes * m : Nat) : Int) ≤ 281474976710656 := by rw [hby]; omega
    rwa [Int.natCast_mul] at k
  have hr := run_make (P := P) w t e i z ht hi hz kl kc n m (by omega) (by omega) hbb hmx
  simp only [Int.toNat_natCast, hsize, Nat.mul_one] at hr
  unfold Oper.wp execOp
  simp only [ho, hl, hc, Sem.run_bind, Sem.run_pure, Result.andThen_ok, hr]
  refine hK _ _ (h _ ?_ ((Fr.refl _ w).alloc _) (by simp))
  have := Has.new w (madeCells z.cells m) e
  rwa [madeCells_one z hzc] at this

/-- copy(d, s), d in a block that is known, s a slice -/
theorem wl_copy {d s : Operand} {t u : TypeId} (hgd : o.guard = none) (ho : o.op = .call { callee := .builtin .copy, args := #[d, s], argTypes := #[t, u] }) {e : TypeId} (ht : P.underlying t = some (.slice e)) (hsz : (P.info? e).map (·.size) = some 1)
    {g off dn dc : Nat} (hd : a.eval d = .slice (some ⟨g, off, none⟩) dn dc) {sa : Option Addr} {m c : Nat} (hs : a.eval s = .slice sa m c) {B vs : List Value} {T : TypeId} (hg : Has w g B T) (hrd : Rd w sa m vs) (h1 : ∀ v ∈ vs, v.oneCell' = true)
    (hfit : off + min m dn ≤ B.length)
    (h : ∀ w', Has w' g (splice B off (vs.take (min m dn))) T → Fr (One g) w w' → w'.heap.size = w.heap.size → wpList P ops Q rest (a.put o.dst (.int .i64 (min m dn : Nat))) w') : wpList P ops Q (o :: rest) a w := by
  refine wpList_plain hgd fun K hK => ?_
  obtain ⟨i, hi, hi1⟩ : ∃ i, P.info? e = some i ∧ i.size = 1 := by simpa using hsz
  have hfc := run_firstCells_Rd (P := P) hrd 1 (min m dn) m c (by omega)
  rw [Nat.mul_one] at hfc
  have hlen : (vs.take (min m dn)).length = min m dn := by rw [List.length_take, hrd.len]; omega
  obtain ⟨w', hst, hh, hf, hz⟩ := run_storeCells_has (P := P) g off T (vs.take (min m dn)) 0 B w hg (by rw [hlen]; omega) (fun v hv => h1 v (List.mem_of_mem_take hv))
  simp only [Nat.add_zero] at hh
  have hr : (Builtin.copy_ #[t, u] o.type #[.slice (some ⟨g, off, none⟩) dn dc, .slice sa m c]).run P w = .ok (.int .i64 (min m dn : Nat)) w' := by
    simp [Builtin.copy_, run_underlying ht, sizeOf, typeInfo, hi, hi1, Builtin.lenOf, hfc, hst, goInt]
  unfold Oper.wp execOp
  simp only [ho, resolve, invoke, builtin, Sem.run_bind, Sem.run_pure, Result.andThen_ok, List.map_toArray, List.map_cons, List.map_nil, hd, hs, hr]
  exact hK _ _ (h w' hh hf hz)

/-- bytes as a string -/
def mkS (l : List UInt8) : ByteArray := ⟨l.toArray⟩
theorem mkS_size (l : List UInt8) : (mkS l).size = l.length := by simp [mkS, ByteArray.size]
theorem mkS_toList (l : List UInt8) : (mkS l).data.toList = l := by simp [mkS]
theorem run_string {sa : Option Addr} {m : Nat} {l : List UInt8} (hrd : RdB w sa m l) (c : Nat) {src e dst : TypeId} (hs : P.underlying src = some (.slice e)) (he : P.underlying e = some (.int .u8)) (hd : P.underlying dst = some .string) :
    (convert src dst (.slice sa m c)).run P w = .ok (.string (mkS l)) w := by
  have hl := hrd.len
  rcases Nat.eq_zero_or_pos m with h0 | h0
  · subst h0
    obtain rfl : l = [] := List.eq_nil_of_length_eq_zero hl
    cases sa with
    | none => exact run_convert_bytes_nil w src e hs he 0 c dst hd
    | some ad =>
      rw [run_convert_bytes_string w src dst e _ 0 c hs he hd]
      simp [Conv.bytesToString, mkS, loadCells, loadCellsFrom]
      rfl
  · obtain ⟨b, o, rfl, hc⟩ := hrd.at h0
    have := run_convert_bytes_arg (P := P) w src e hs he b o m c (l.map fun x => (x.toNat : Int)) (by simp [hl]) (fun i hi => by
      rw [hc i hi]; simp [List.getD_eq_getElem?_getD, List.getElem?_eq_getElem (show i < l.length by omega)]) dst hd
    rw [this]
    have hid : (l.map ((fun n : Int => UInt8.ofNat n.toNat) ∘ fun x : UInt8 => (x.toNat : Int))) = l := by
      rw [List.map_congr_left (g := id)]
      · simp
      · intro x _; simp
    simp only [strOfNums, List.map_map, hid, mkS]

/-- []byte(s) -/
theorem wl_bytes {x : Operand} {src dst : TypeId} (hgd : o.guard = none) (ho : o.op = .convert src dst x) {e : TypeId} (hs : P.underlying src = some .string) (hd : P.underlying dst = some (.slice e)) (he : P.underlying e = some (.int .u8))
    {q : ByteArray} (hx : a.eval x = .string q) (hq : q.size ≤ maxLen) (base : Nat) (hb : base ≤ w.heap.size)
    (h : ∀ cap w', Own w' base e 1 (.slice (some ⟨w.heap.size, 0, none⟩) q.size cap) q.size (bs q.data.toList) → Fr Nob w w' → w.heap.size < w'.heap.size → wpList P ops Q rest (a.put o.dst (.slice (some ⟨w.heap.size, 0, none⟩) q.size cap)) w') : wpList P ops Q (o :: rest) a w := by
  refine wpList_plain hgd fun K hK => ?_
  have hr := run_bytes_of_string (P := P) w src dst e q hs hd he
  have hge := grownCap_ge w q.size 0 e
  have hcm := grownCap_le_maxLen w q.size 0 e hq
  unfold Oper.wp execOp
  simp only [ho, hx, Sem.run_bind, Sem.run_pure, Result.andThen_ok, hr]
  refine hK _ _ (h _ _ ⟨by rw [bs_len]; omega, .inr ⟨w.heap.size, 0, _, (bytesRow q (grownCap w q.size 0 e)).toList, rfl, hb, ?_, hge, hcm, ?_, ?_⟩⟩ (((Fr.refl _ w).drew).alloc _) (by simp))
  · refine ⟨(bytesRow q (grownCap w q.size 0 e)).size, (bytesRow q (grownCap w q.size 0 e)).size + 1, ?_, .inr (Nat.le_of_eq ?_)⟩
    · have := heap_alloc_new w.drew (.cells (bytesRow q (grownCap w q.size 0 e)) e ((bytesRow q (grownCap w q.size 0 e)).size, (bytesRow q (grownCap w q.size 0 e)).size + 1))
      simpa using this
    · simp
  · have hd : q.data.size = q.size := rfl
    simp [bytesRow, hd]; omega
  · simp only [bytesRow, Array.toList_append, List.drop_zero, Nat.mul_one]
    rw [← bs_data]
    exact List.take_left' (by rw [bs_len])
end

/-- the walk stands still here -/
def Stop (p : Prop) : Prop := p
theorem wl_stop {w : World} {ops : Array Oper} {rest : List Oper} {o : Oper} {a : Act} {Q : Exit → Act → World → Prop} (h : Stop (wpList P ops Q (o :: rest) a w)) : wpList P ops Q (o :: rest) a w := h

end Go.Mv

/- Plain lemmas on lists: filling a list from the left. -/
namespace Mvp

/-- the first k of F, the rest of I -/
def fill {α : Type} (F I : List α) (k : Nat) : List α := F.take k ++ I.drop k
theorem fill_length {α : Type} (F I : List α) (k : Nat) (h : F.length = I.length) : (fill F I k).length = I.length := by simp [fill]; omega
theorem fill_zero {α : Type} (F I : List α) : fill F I 0 = I := by simp [fill]
theorem fill_all {α : Type} (F I : List α) (k : Nat) (h : F.length = I.length) (hk : F.length ≤ k) : fill F I k = F := by
  unfold fill
  rw [List.take_of_length_le hk, List.drop_eq_nil_of_le (by omega), List.append_nil]
theorem fill_set {α : Type} (F I : List α) (k : Nat) (h : F.length = I.length) (hk : k < F.length) (d : α) : (fill F I k).set k (F.getD k d) = fill F I (k + 1) := by
  unfold fill
  have e : F.getD k d = F[k] := by simp [List.getD_eq_getElem?_getD, hk]
  rw [e, List.set_append_right _ _ (by simp; omega), List.length_take, Nat.min_eq_left (Nat.le_of_lt hk), Nat.sub_self, List.drop_eq_getElem_cons (by omega), List.set_cons_zero, List.take_succ_eq_append_getElem hk]
  simp only [List.append_assoc, List.singleton_append]
/-- Go's shifts of a 64-bit word, at every count -/
def shl (x : UInt64) (k : Nat) : UInt64 := UInt64.ofNat (x.toNat * 2 ^ k)
def shr (x : UInt64) (k : Nat) : UInt64 := UInt64.ofNat (x.toNat / 2 ^ k)
/-- the operators under names of their own -/
def wx (x y : UInt64) : UInt64 := x ^^^ y
def wo (x y : UInt64) : UInt64 := x ||| y
def wa (x y : UInt64) : UInt64 := x &&& y
def wn (x : UInt64) : UInt64 := ~~~x
def wid (x : UInt8) : UInt64 := x.toUInt64
def lo8 (x : UInt64) : UInt8 := x.toUInt8
def bx (x y : UInt8) : UInt8 := x ^^^ y
def bo (x y : UInt8) : UInt8 := x ||| y
def ba (x y : UInt8) : UInt8 := x &&& y
/-- Go's rotation of a 64-bit word to the left -/
def rotl (x : UInt64) (n : Nat) : UInt64 := shl x n ||| shr x (64 - n)
end Mvp

/- Rules of the walk for words: what Go's operators on 64-bit words and on bytes are on UInt64 and UInt8. -/
namespace Go.Mv
open Go.RowKit Mvp

theorem u64_lt (x : UInt64) : x.toNat < 18446744073709551616 := x.toNat_lt
theorem shr_toNat (x : UInt64) (k : Nat) : (shr x k).toNat = x.toNat / 2 ^ k := by
  have := u64_lt x
  have h := Nat.div_le_self x.toNat (2 ^ k)
  simp only [shr, UInt64.toNat_ofNat']
  exact Nat.mod_eq_of_lt (Nat.lt_of_le_of_lt h this)
theorem shl_toNat (x : UInt64) (k : Nat) : (shl x k).toNat = x.toNat * 2 ^ k % 18446744073709551616 := by simp [shl]

theorem shl_run (x : UInt64) (yk : IntKind) (k : Nat) : Op.shift .shl .u64 (x.toNat : Int) yk (k : Int) = pure (.int .u64 ((shl x k).toNat : Int)) := by
  rw [shift_shl_any _ _ _ _ (by omega), shl_toNat]
  congr 2
  rw [IntKind.wrap_u64]
  simp only [Int.toNat_natCast, IntKind.bits]
  rcases Nat.lt_or_ge k 64 with h | h
  · rw [Nat.min_eq_left (by omega)]
    simp
  · rw [Nat.min_eq_right (by omega)]
    obtain ⟨j, rfl⟩ : ∃ j, k = 64 + j := ⟨k - 64, by omega⟩
    have e : x.toNat * 2 ^ (64 + j) = x.toNat * 2 ^ j * 18446744073709551616 := by
      have e64 : (2 : Nat) ^ 64 = 18446744073709551616 := by decide
      rw [Nat.pow_add, e64]; ac_rfl
    rw [e, Nat.mul_mod_left]
    have e2 : (2 : Int) ^ 64 = 18446744073709551616 := by decide
    rw [e2]
    omega
theorem shr_run (x : UInt64) (yk : IntKind) (k : Nat) : Op.shift .shr .u64 (x.toNat : Int) yk (k : Int) = pure (.int .u64 ((shr x k).toNat : Int)) := by
  rw [shift_shr_any _ _ _ _ (by omega), shr_toNat]
  congr 2
  simp only [Int.toNat_natCast, IntKind.bits]
  rcases Nat.lt_or_ge k 64 with h | h
  · rw [Nat.min_eq_left (by omega)]
    simp
  · rw [Nat.min_eq_right (by omega)]
    have hx := u64_lt x
    have e2 : (2 : Int) ^ 64 = 18446744073709551616 := by decide
    have h3 : x.toNat / 2 ^ k = 0 := Nat.div_eq_of_lt (Nat.lt_of_lt_of_le hx (by have := Nat.pow_le_pow_right (show 0 < 2 by omega) h; simpa using this))
    rw [e2, h3]
    omega
theorem shl_lit (x : UInt64) (yk : IntKind) (n : Nat) : Op.shift .shl .u64 (x.toNat : Int) yk (no_index (OfNat.ofNat n)) = pure (.int .u64 ((shl x n).toNat : Int)) := shl_run x yk n
theorem shr_lit (x : UInt64) (yk : IntKind) (n : Nat) : Op.shift .shr .u64 (x.toNat : Int) yk (no_index (OfNat.ofNat n)) = pure (.int .u64 ((shr x n).toNat : Int)) := shr_run x yk n
theorem xor_run (x y : UInt64) : bits .xor .u64 (x.toNat : Int) (y.toNat : Int) = ((wx x y).toNat : Int) := by
  have := bits_xor_u64_nat x.toNat y.toNat (u64_lt x) (u64_lt y)
  rw [this]; simp [wx]
theorem or_run (x y : UInt64) : bits .or .u64 (x.toNat : Int) (y.toNat : Int) = ((wo x y).toNat : Int) := by
  have := bits_or_u64_nat x.toNat y.toNat (u64_lt x) (u64_lt y)
  rw [this]; simp [wo]
theorem and_run (x y : UInt64) : bits .and .u64 (x.toNat : Int) (y.toNat : Int) = ((wa x y).toNat : Int) := by
  have := bits_and_u64_nat x.toNat y.toNat (u64_lt x) (u64_lt y)
  rw [this]; simp [wa]
theorem not_run (x : UInt64) : bits .xor .u64 18446744073709551615 (x.toNat : Int) = ((wn x).toNat : Int) := by
  have e : (18446744073709551615 : Int) = (((18446744073709551615 : UInt64).toNat : Nat) : Int) := by decide
  have e1 : (18446744073709551615 : UInt64) = -1 := by decide
  rw [e, xor_run, e1, wx, UInt64.neg_one_xor, wn]
theorem not_run2 (x : UInt64) : bits .xor .u64 (if IntKind.u64.signed = true then -1 else IntKind.u64.max) (x.toNat : Int) = ((wn x).toNat : Int) := not_run x
theorem and63_run (k : Nat) : bits .and .u64 (k : Int) 63 = ((k % 64 : Nat) : Int) := by
  have h1 : BitVec.ofInt 64 (k : Int) = BitVec.ofNat 64 k := by simp
  have h2 : (BitVec.ofNat 64 k &&& BitVec.ofInt 64 63).toNat = k % 64 := by
    have e : (BitVec.ofInt 64 63).toNat = 2 ^ 6 - 1 := by decide
    rw [BitVec.toNat_and, e, Nat.and_two_pow_sub_one_eq_mod, BitVec.toNat_ofNat]
    omega
  show IntKind.u64.wrap (((BitVec.ofInt 64 (k : Int) &&& BitVec.ofInt 64 63).toNat : Nat) : Int) = _
  rw [h1, h2, IntKind.wrap_u64]
  omega
theorem widen_run (x : UInt8) : IntKind.u64.wrap (x.toNat : Int) = ((wid x).toNat : Int) := by
  have := x.toNat_lt
  rw [IntKind.wrap_u64]; simp [wid]; omega
theorem narrow_run (x : UInt64) : IntKind.u8.wrap (x.toNat : Int) = ((lo8 x).toNat : Int) := by
  rw [IntKind.wrap_u8']; simp [lo8]
theorem xor8_run (x y : UInt8) : bits .xor .u8 (x.toNat : Int) (y.toNat : Int) = ((bx x y).toNat : Int) := by
  rw [u8_xor_nat _ _ x.toNat_lt y.toNat_lt]; simp [bx]
theorem and8_run (x y : UInt8) : bits .and .u8 (x.toNat : Int) (y.toNat : Int) = ((ba x y).toNat : Int) := by
  rw [u8_and_nat _ _ x.toNat_lt y.toNat_lt]; simp [ba]
theorem or8_run (x y : UInt8) : bits .or .u8 (x.toNat : Int) (y.toNat : Int) = ((bo x y).toNat : Int) := by
  rw [u8_or_nat _ _ x.toNat_lt y.toNat_lt]; simp [bo]
theorem ofInt_nat (k : Nat) : BitVec.ofInt 64 (k : Int) = BitVec.ofNat 64 k := by simp
theorem wrap_i64_small (n : Nat) (h : n < 9223372036854775808) : IntKind.i64.wrap (n : Int) = (n : Int) := by rw [IntKind.wrap_i64]; omega
theorem and_i64 (a b : Nat) (ha : a < 9223372036854775808) (hb : b < 9223372036854775808) : bits .and .i64 (a : Int) (b : Int) = ((a &&& b : Nat) : Int) := by
  show IntKind.i64.wrap (((BitVec.ofInt 64 (a : Int) &&& BitVec.ofInt 64 (b : Int)).toNat : Nat) : Int) = _
  rw [ofInt_nat, ofInt_nat, BitVec.toNat_and, BitVec.toNat_ofNat, BitVec.toNat_ofNat, Nat.mod_eq_of_lt (by omega), Nat.mod_eq_of_lt (by omega)]
  exact wrap_i64_small _ (Nat.lt_of_le_of_lt Nat.and_le_left ha)
theorem wid_toNat (y : UInt8) : (wid y).toNat = y.toNat := by simp [wid]
theorem or_mix (x : UInt64) (y : UInt8) : bits .or .u64 (x.toNat : Int) (y.toNat : Int) = ((wo x (wid y)).toNat : Int) := by rw [← or_run, wid_toNat]
theorem xor_mix (x : UInt64) (y : UInt8) : bits .xor .u64 (x.toNat : Int) (y.toNat : Int) = ((wx x (wid y)).toNat : Int) := by rw [← xor_run, wid_toNat]
theorem shl_mix (x : UInt8) (yk : IntKind) (k : Nat) : Op.shift .shl .u64 (x.toNat : Int) yk (k : Int) = pure (.int .u64 ((shl (wid x) k).toNat : Int)) := by rw [← shl_run, wid_toNat]
theorem shl_wrap (x : UInt64) (k : Nat) : IntKind.u64.wrap ((x.toNat : Int) * 2 ^ k) = ((shl x k).toNat : Int) := by
  rw [IntKind.wrap_u64, shl_toNat]; simp
theorem shr_div (x : UInt64) (k : Nat) : (x.toNat : Int) / 2 ^ k = ((shr x k).toNat : Int) := by
  rw [shr_toNat]; simp
attribute [go_sem high] shl_wrap shr_div or_mix xor_mix shl_mix shl_lit shr_lit shl_run shr_run xor_run or_run and_run not_run not_run2 and63_run widen_run narrow_run xor8_run and8_run or8_run

section
variable {P : Program} {w : World} {ops : Array Oper} {rest : List Oper} {o : Oper} {a : Act} {Q : Exit → Act → World → Prop}
/-- s[i] of a text: the byte F i, where F is told -/
theorem wl_index_str {x i : Operand} {t : TypeId} (hgd : o.guard = none) (ho : o.op = .index t x i) (ht : P.underlying t = some .string) {s : ByteArray} {ki : IntKind} {j : Int} (hx : a.eval x = .string s) (hi : a.eval i = .int ki j)
    (k : Nat) (hj : j = k) (hk : k < s.size) (y : UInt8) (hy : s.data.toList.getD k 0 = y) (h : wpList P ops Q rest (a.put o.dst (.int .u8 (y.toNat : Int))) w) : wpList P ops Q (o :: rest) a w := by
  refine wpList_plain hgd fun K hK => ?_
  subst hj
  have he : s[k]? = some y := by
    have h1 : s[k]? = some s[k] := getElem?_pos s k hk
    rw [h1]
    congr 1
    rw [← hy, List.getD_eq_getElem?_getD, List.getElem?_eq_getElem (by simpa using hk)]
    simp
    rfl
  have hr : (Instr.index t (.string s) (.int ki (k : Int))).run P w = .ok (.int .u8 (y.toNat : Int)) w := by
    simp [Instr.index, asIntOf, run_underlying ht, he]
  unfold Oper.wp execOp
  simp only [ho, hx, hi, Sem.run_bind, Sem.run_pure, Result.andThen_ok, hr]
  exact hK _ _ h
end

/-- a call that leaves the world alone, behind draws -/
theorem quiet_more {P : Program} {f : FuncId} {args : Array Value} {w : World} {a n : Nat} {v : Value}
    (h : Calls P f args (w.drewN (a + n)) fun e w' => e = .returned v ∧ w' = w.drewN (a + n)) :
    Calls P f args (w.drewN (a + n)) fun e w'' => e = .returned v ∧ ∃ m, w'' = w.drewN (a + m) :=
  h.mono fun _ _ h => ⟨h.1, n, h.2⟩
end Go.Mv

/- Whole arrays in memory: load, store, result, over the words of Mem. -/
namespace Go.Mv
open Go.RowKit
variable {P : Program}

theorem Has.setCells {g : Nat} {T : TypeId} : ∀ (cs : List Value) (o : Nat) (L : List Value) (w : World), Has w g L T → o + cs.length ≤ L.length → Has (w.setCells g o cs) g (splice L o cs) T ∧ Fr (One g) w (w.setCells g o cs) ∧ (w.setCells g o cs).heap.size = w.heap.size
  | [], o, L, w, h, _ => ⟨by rw [splice_nil]; exact h, Fr.refl _ _, rfl⟩
  | v :: cs, o, L, w, h, hl => by
    simp only [List.length_cons] at hl
    obtain ⟨h1, h2, h3⟩ := Has.setCells cs (o + 1) (L.set o v) (w.setCell ⟨g, o, none⟩ v) (h.set o v) (by simp; omega)
    rw [splice_cons L o v cs (by omega)] at h1
    refine ⟨h1, ((Fr.refl (One g) w).setCell g o none v (fun _ => rfl)).trans h2 (fun _ _ t => t), ?_⟩
    show ((w.setCell ⟨g, o, none⟩ v).setCells g (o + 1) cs).heap.size = _
    rw [h3]; simp [World.setCell]

theorem Has.range {w : World} {g : Nat} {L : List Value} {T : TypeId} (h : Has w g L T) (o : Nat) (cs : List Value) (hcs : (L.drop o).take cs.length = cs) : w.rangeAt g o cs := by
  intro j v hv
  rw [h.get]
  have : j < cs.length := by
    rcases Nat.lt_or_ge j cs.length with k | k
    · exact k
    · simp [List.getElem?_eq_none k] at hv
  rw [← hcs, List.getElem?_take, if_pos this, List.getElem?_drop] at hv
  exact hv
theorem Has.there {w : World} {g : Nat} {L : List Value} {T : TypeId} (h : Has w g L T) (o n : Nat) (hn : o + n ≤ L.length) : w.there g o n := by
  intro j hj
  obtain ⟨v, h1, h2⟩ := h.ready (i := o + j) (by omega)
  exact ⟨by rw [h1]; rfl, h2⟩

section
variable {w : World} {ops : Array Oper} {rest : List Oper} {o : Oper} {a : Act} {Q : Exit → Act → World → Prop}
/-- a whole array is read -/
theorem wl_loadA {ty : TypeId} {x : Operand} (hgd : o.guard = none) (ho : o.op = .load ty x) {n : Nat} {e : TypeId} (hu : P.underlying ty = some (.array n e)) {g p : Nat} (hx : a.eval x = .pointer (some ⟨g, p, none⟩))
    {L : List Value} {T : TypeId} (hg : Has w g L T) (cs : List Value) (hcs : (L.drop p).take cs.length = cs) (hi : (P.info? ty).map (·.size) = some cs.length)
    (h : wpList P ops Q rest (a.put o.dst (.agg cs.toArray)) w) : wpList P ops Q (o :: rest) a w :=
  wpList_load_mid hgd ty x ho g p hx cs _ (hg.range p cs hcs) hu rfl hi h
/-- a whole array is stored -/
theorem wl_storeA {ty : TypeId} {x y : Operand} (hgd : o.guard = none) (ho : o.op = .store ty x y) {g p : Nat} (hx : a.eval x = .pointer (some ⟨g, p, none⟩)) {cs : List Value} (hy : a.eval y = .agg cs.toArray)
    {L : List Value} {T : TypeId} (hg : Has w g L T) (hn : p + cs.length ≤ L.length) (hi : (P.info? ty).map (·.size) = some cs.length) (h1 : ∀ v ∈ cs, v.oneCell' = true)
    (h : ∀ w', Has w' g (splice L p cs) T → Fr (One g) w w' → w'.heap.size = w.heap.size → wpList P ops Q rest (a.put o.dst undef) w') : wpList P ops Q (o :: rest) a w := by
  obtain ⟨k1, k2, k3⟩ := Has.setCells cs p L w hg hn
  exact wpList_store_mid hgd ty x y ho g p cs.toArray hx hy (by simpa using hg.there p cs.length hn) (by simpa using hi) (all_oneCell_toArray h1) (by simpa using h _ k1 k2 k3)
end

theorem splice_whole (L cs : List Value) (h : cs.length = L.length) : splice L 0 cs = cs := by
  simp [splice, h]

/-- the result is an array in memory -/
theorem results_arr {fn : Func} {p : Tmp} {ty : TypeId} (h : fn.results = #[.cell p ty]) {tmps : Array Value} {w : World} {g : Nat} {L : List Value} {T : TypeId}
    (hp : tmps.getD p undef = .pointer (some ⟨g, 0, none⟩)) (hg : Has w g L T) {n : Nat} {e : TypeId} (hu : P.underlying ty = some (.array n e)) (hi : (P.info? ty).map (·.size) = some L.length) :
    (results fn tmps).run P w = .ok (.agg L.toArray) w := by
  obtain ⟨lo, hi', hh, -⟩ := hg
  exact results_cell_row h tmps w g T L.toArray _ _ hp hh hu rfl (by simpa using hi)

open Mvp in
/-- a row of bytes that is filled from the left -/
theorem Has.fillB {w : World} {g : Nat} {T : TypeId} {F I : List UInt8} {k : Nat} (h : Has w g (bs (fill F I k)) T) (hl : F.length = I.length) (hk : k < F.length) : Has (w.setCell ⟨g, k, none⟩ (.int .u8 ((F.getD k 0).toNat : Int))) g (bs (fill F I (k + 1))) T := by
  have := h.set k (.int .u8 ((F.getD k 0).toNat : Int))
  rwa [bs_set, fill_set _ _ _ hl hk] at this

section
variable {w : World} {ops : Array Oper} {rest : List Oper} {o : Oper} {a : Act} {Q : Exit → Act → World → Prop}
/-- a new variable -/
theorem wl_alloc {e : TypeId} (hgd : o.guard = none) (ho : o.op = .alloc e) {z : Value} (hi : (P.info? e).map (·.zero) = some (some z)) (L : List Value) (hL : z.cells.toList = L)
    (h : ∀ w', Has w' w.heap.size L e → Fr Nob w w' → w'.heap.size = w.heap.size + 1 → wpList P ops Q rest (a.put o.dst (.pointer (some ⟨w.heap.size, 0, none⟩))) w') : wpList P ops Q (o :: rest) a w := by
  refine wpList_plain hgd fun K hK => ?_
  obtain ⟨i, hi1, hz⟩ : ∃ i, P.info? e = some i ∧ i.zero = some z := by simpa using hi
  have hr : (Instr.alloc e true (.tuple #[])).run P w = .ok (.pointer (some ⟨w.heap.size, 0, none⟩)) (w.alloc (.cells z.cells e)) := by
    simp [Instr.alloc, zeroValue, typeInfo, hi1, hz, newVar, newRow]
  unfold Oper.wp execOp
  simp only [ho, Sem.run_bind, Sem.run_pure, Result.andThen_ok, hr]
  refine hK _ _ (h _ ?_ ((Fr.refl _ w).alloc _) (by simp))
  have := Has.new w z.cells e
  rwa [hL] at this
end

section
variable {w : World} {ops : Array Oper} {rest : List Oper} {o : Oper} {a : Act} {Q : Exit → Act → World → Prop}
theorem run_sliceBound (k : IntKind) (n y : Nat) (code : BoundsCode) (h : n ≤ y) : (Instr.sliceBound (.int k (n : Int)) y code).run P w = .ok n w := by
  have : ((n : Int) ≤ (y : Int)) := by omega
  simp [Instr.sliceBound, asIntOf, this]

/-- an array in memory, cut: x[l:h:m] -/
theorem wl_cutA {ty : TypeId} {x lo hi mx : Operand} (hgd : o.guard = none) (ho : o.op = .slice ty x (some lo) (some hi) (some mx)) {n : Nat} {e : TypeId} (hu : P.underlying ty = some (.array n e)) (hsz : (P.info? e).map (·.size) = some 1)
    {g p : Nat} (hx : a.eval x = .pointer (some ⟨g, p, none⟩)) {kl kh km : IntKind} {il ih im : Int} (hl : a.eval lo = .int kl il) (hh : a.eval hi = .int kh ih) (hm : a.eval mx = .int km im)
    (l h m : Nat) (el : il = l) (eh : ih = h) (em : im = m) (h1 : l < m) (h2 : l ≤ h) (h3 : h ≤ m) (h4 : m ≤ n)
    (hK : wpList P ops Q rest (a.put o.dst (.slice (some ⟨g, p + l, none⟩) (h - l) (m - l))) w) : wpList P ops Q (o :: rest) a w := by
  refine wpList_plain hgd fun K hK' => ?_
  obtain ⟨i, hi1, hi2⟩ : ∃ i, P.info? e = some i ∧ i.size = 1 := by simpa using hsz
  subst el eh em
  have hr : (Instr.sliceAt ty (.pointer (some ⟨g, p, none⟩)) (some (.int kl (l : Int))) (some (.int kh (h : Int))) (some (.int km (m : Int)))).run P w = .ok (.slice (some ⟨g, p + l, none⟩) (h - l) (m - l)) w := by
    have hne : ¬ m = l := by omega
    simp [Instr.sliceAt, run_underlying hu, Instr.sliceBounds, run_sliceBound, h2, h3, h4, sizeOf, typeInfo, hi1, hi2, hne, addr_add, Instr.sureAddr]
  unfold Oper.wp execOp
  simp only [ho, hx, hl, hh, hm, Option.map_some, Sem.run_bind, Sem.run_pure, Result.andThen_ok, hr]
  exact hK' _ _ hK

/-- where a cut of a slice lies -/
def cutAt (p : Option Addr) (l m : Nat) : Option Addr := if m = l then p else p.map (·.add l)
theorem cutAt_rd {w : World} {p : Option Addr} {n : Nat} {vs : List Value} (hr : Rd w p n vs) (l h m : Nat) (h2 : l ≤ h) (h3 : h ≤ m) (h4 : h ≤ n) : Rd w (cutAt p l m) (h - l) ((vs.drop l).take (h - l)) := by
  have hlen := hr.len
  refine ⟨by simp; omega, ?_⟩
  rcases Nat.eq_zero_or_pos (h - l) with h0 | h0
  · exact .inl h0
  · obtain ⟨b, o, rfl, hc⟩ := hr.at (by omega)
    refine .inr ⟨b, o + l, ?_, hc.sub l (h - l)⟩
    simp [cutAt, show ¬ m = l by omega, addr_add]
theorem cutAt_block {p : Option Addr} {l m : Nat} {x : Addr} (h : cutAt p l m = some x) : ∃ y, p = some y ∧ y.block = x.block := by
  unfold cutAt at h
  split at h
  · exact ⟨x, h, rfl⟩
  · cases p with
    | none => cases h
    | some y =>
      refine ⟨y, rfl, ?_⟩
      simp only [Option.map_some, Option.some.injEq] at h
      subst h
      unfold Addr.add
      split <;> rfl
theorem cutAt_off {S : Nat → Prop} {p : Option Addr} (h : Off S p) (l m : Nat) : Off S (cutAt p l m) := by
  intro x hx
  obtain ⟨y, hy, e⟩ := cutAt_block hx
  rw [← e]; exact h y hy

/-- a slice of one-cell elements, cut: x[l:h] -/
theorem wl_cut {ty : TypeId} {x : Operand} {lo hi : Option Operand} (hgd : o.guard = none) (ho : o.op = .slice ty x lo hi none) {e : TypeId} (hu : P.underlying ty = some (.slice e)) (hsz : (P.info? e).map (·.size) = some 1)
    {p : Option Addr} {n c : Nat} (hx : a.eval x = .slice p n c) (l h : Nat) (hl : lo.elim (l = 0) (fun y => ∃ k, a.eval y = .int k (l : Int))) (hh : hi.elim (h = n) (fun y => ∃ k, a.eval y = .int k (h : Int))) (h2 : l ≤ h) (h3 : h ≤ c)
    (hK : wpList P ops Q rest (a.put o.dst (.slice (cutAt p l c) (h - l) (c - l))) w) : wpList P ops Q (o :: rest) a w := by
  refine wpList_plain hgd fun K hK' => ?_
  obtain ⟨i, hi1, hi2⟩ : ∃ i, P.info? e = some i ∧ i.size = 1 := by simpa using hsz
  have hr : (Instr.sliceAt ty (.slice p n c) (lo.map a.eval) (hi.map a.eval) none).run P w = .ok (.slice (cutAt p l c) (h - l) (c - l)) w := by
    cases lo with
    | none =>
      simp only [Option.elim] at hl
      subst hl
      cases hi with
      | none =>
        simp only [Option.elim] at hh
        subst hh
        simp [Instr.sliceAt, Instr.slice, run_underlying hu, Instr.sliceBounds, sizeOf, typeInfo, hi1, cutAt]
      | some y =>
        obtain ⟨k, hk⟩ := hh
        simp [Instr.sliceAt, Instr.slice, run_underlying hu, Instr.sliceBounds, run_sliceBound, h3, sizeOf, typeInfo, hi1, cutAt, hk]
    | some z =>
      obtain ⟨kz, hkz⟩ := hl
      cases hi with
      | none =>
        simp only [Option.elim] at hh
        subst hh
        simp [Instr.sliceAt, Instr.slice, run_underlying hu, Instr.sliceBounds, run_sliceBound, h2, sizeOf, typeInfo, hi1, hi2, cutAt, hkz]
      | some y =>
        obtain ⟨k, hk⟩ := hh
        simp [Instr.sliceAt, Instr.slice, run_underlying hu, Instr.sliceBounds, run_sliceBound, h2, h3, sizeOf, typeInfo, hi1, hi2, cutAt, hk, hkz]
  unfold Oper.wp execOp
  simp only [ho, hx, Option.map_none, Sem.run_bind, Sem.run_pure, Result.andThen_ok, hr]
  exact hK' _ _ hK
/-- a slice of one-cell elements, cut: x[l:h:m] -/
theorem wl_cut3 {ty : TypeId} {x : Operand} {lo : Option Operand} {hi mx : Operand} (hgd : o.guard = none) (ho : o.op = .slice ty x lo (some hi) (some mx)) {e : TypeId} (hu : P.underlying ty = some (.slice e)) (hsz : (P.info? e).map (·.size) = some 1)
    {p : Option Addr} {n c : Nat} (hx : a.eval x = .slice p n c) (l h m : Nat) (hl : lo.elim (l = 0) (fun y => ∃ k, a.eval y = .int k (l : Int))) {kh km : IntKind} {ih im : Int} (hh : a.eval hi = .int kh ih) (hm : a.eval mx = .int km im) (eh : ih = h) (em : im = m) (h2 : l ≤ h) (h3 : h ≤ m) (h4 : m ≤ c)
    (hK : wpList P ops Q rest (a.put o.dst (.slice (cutAt p l m) (h - l) (m - l))) w) : wpList P ops Q (o :: rest) a w := by
  refine wpList_plain hgd fun K hK' => ?_
  obtain ⟨i, hi1, hi2⟩ : ∃ i, P.info? e = some i ∧ i.size = 1 := by simpa using hsz
  subst eh em
  have hr : (Instr.sliceAt ty (.slice p n c) (lo.map a.eval) (some (a.eval hi)) (some (a.eval mx))).run P w = .ok (.slice (cutAt p l m) (h - l) (m - l)) w := by
    cases lo with
    | none =>
      simp only [Option.elim] at hl
      subst hl
      simp [Instr.sliceAt, Instr.slice, run_underlying hu, Instr.sliceBounds, run_sliceBound, h3, h4, sizeOf, typeInfo, hi1, cutAt, hh, hm]
    | some z =>
      obtain ⟨kz, hkz⟩ := hl
      simp [Instr.sliceAt, Instr.slice, run_underlying hu, Instr.sliceBounds, run_sliceBound, h2, h3, h4, sizeOf, typeInfo, hi1, hi2, cutAt, hkz, hh, hm]
  unfold Oper.wp execOp
  simp only [ho, hx, Option.map_some, Sem.run_bind, Sem.run_pure, Result.andThen_ok, hr]
  exact hK' _ _ hK
end

theorem Rd.lt {w : World} {b o n : Nat} {vs : List Value} (h : Rd w (some ⟨b, o, none⟩) n vs) (hn : 0 < n) : b < w.heap.size := by
  obtain ⟨b', o', he, hc⟩ := h.at hn
  simp only [Option.some.injEq, Addr.mk.injEq] at he
  obtain ⟨rfl, rfl, -⟩ := he
  have := hc.cell (i := 0) (by rw [h.len]; exact hn)
  exact block_lt_of_cell this
end Go.Mv

/- Literals of structs and of slices, boxes. -/
namespace Go.Mv
open Go.RowKit
variable {P : Program}

theorem wl_build {w : World} {ops : Array Oper} {rest : List Oper} {o : Oper} {a : Act} {Q : Exit → Act → World → Prop} {t : TypeId} {parts : Array (Nat × Operand)} (hgd : o.guard = none) (ho : o.op = .build t parts) (cells : Array Value)
    (hb : P.built t (parts.map fun (i, x) => (i, a.eval x)).toList = some cells) (h : wpList P ops Q rest (a.put o.dst (.agg cells)) w) : wpList P ops Q (o :: rest) a w := by
  refine wpList_plain hgd fun K hK => ?_
  have hr := run_build (P := P) w t (parts.map fun (i, x) => (i, a.eval x)) cells hb
  unfold Oper.wp execOp
  simp only [ho, Sem.run_bind, Sem.run_pure, Result.andThen_ok, hr]
  exact hK _ _ h
theorem wl_build0 {w : World} {ops : Array Oper} {rest : List Oper} {o : Oper} {a : Act} {Q : Exit → Act → World → Prop} {t : TypeId} (hgd : o.guard = none) (ho : o.op = .build t #[]) (cells : Array Value)
    (hb : P.built t [] = some cells) (h : wpList P ops Q rest (a.put o.dst (.agg cells)) w) : wpList P ops Q (o :: rest) a w :=
  wl_build hgd ho cells (by simpa using hb) h
/-- a slice's block is there already -/
def Old (w : World) (a : Option Addr) : Prop := ∀ x, a = some x → x.block < w.heap.size
theorem Old.grow {w w' : World} {a : Option Addr} (h : Old w a) (hs : w.heap.size ≤ w'.heap.size) : Old w' a := fun x hx => Nat.lt_of_lt_of_le (h x hx) hs
theorem Old.off {w : World} {a : Option Addr} (h : Old w a) {g : Nat} (hg : w.heap.size ≤ g) : Off (One g) a := fun x hx (e : x.block = g) => by have := h x hx; omega
theorem Old.none (w : World) : Old w .none := fun _ h => by cases h
theorem Old.has {w : World} {g : Nat} {L : List Value} {T : TypeId} (h : Has w g L T) (o : Nat) : Old w (some ⟨g, o, .none⟩) := fun x hx => by cases hx; exact h.lt
theorem wl_box {w : World} {ops : Array Oper} {rest : List Oper} {o : Oper} {a : Act} {Q : Exit → Act → World → Prop} {e : TypeId} {x : Operand} (hgd : o.guard = none) (ho : o.op = .box e x) {v : Value} (hx : a.eval x = v) (L : List Value) (hL : v.cells.toList = L)
    (h : ∀ w', Has w' w.heap.size L e → Fr Nob w w' → w'.heap.size = w.heap.size + 1 → wpList P ops Q rest (a.put o.dst (.pointer (some ⟨w.heap.size, 0, none⟩))) w') : wpList P ops Q (o :: rest) a w := by
  refine wpList_plain hgd fun K hK => ?_
  have hr : (Instr.box e v).run P w = .ok (.pointer (some ⟨w.heap.size, 0, none⟩)) (w.alloc (.cells v.cells e)) := by
    simp [Instr.box, newVar, newRow]
  unfold Oper.wp execOp
  simp only [ho, hx, Sem.run_bind, Sem.run_pure, Result.andThen_ok, hr]
  refine hK _ _ (h _ ?_ ((Fr.refl _ w).alloc _) (by simp))
  have := Has.new w v.cells e
  rwa [hL] at this
/-- four bytes in a row -/
theorem wl_four {w : World} {ops : Array Oper} {rest : List Oper} {o : Oper} {a : Act} {Q : Exit → Act → World → Prop} {t e : TypeId} {y0 y1 y2 y3 : Operand} (hgd : o.guard = none) (ho : o.op = .buildSlice t 4 #[(0, y0), (1, y1), (2, y2), (3, y3)])
    (hu : P.underlying t = some (.slice e)) (hi0 : (P.info? e).map (fun i => (i.zero, i.size, i.bytes)) = some (some (.int .u8 0), 1, 1)) (x0 x1 x2 x3 : UInt8)
    (h0 : a.eval y0 = .int .u8 (x0.toNat : Int)) (h1 : a.eval y1 = .int .u8 (x1.toNat : Int)) (h2 : a.eval y2 = .int .u8 (x2.toNat : Int)) (h3 : a.eval y3 = .int .u8 (x3.toNat : Int))
    (h : ∀ w', Has w' w.heap.size (bs [x0, x1, x2, x3]) e → Fr Nob w w' → w'.heap.size = w.heap.size + 1 → wpList P ops Q rest (a.put o.dst (.slice (some ⟨w.heap.size, 0, none⟩) 4 4)) w') : wpList P ops Q (o :: rest) a w := by
  obtain ⟨i, hi, hz⟩ : ∃ i, P.info? e = some i ∧ (i.zero, i.size, i.bytes) = (some (.int .u8 0), 1, 1) := by simpa using hi0
  simp only [Prod.mk.injEq] at hz
  obtain ⟨hz, hsz, hby⟩ := hz
  have hp : ((#[(0, y0), (1, y1), (2, y2), (3, y3)] : Array (Nat × Operand)).map fun (i, x) => (i, a.eval x)).toList = [(0, .int .u8 (x0.toNat : Int)), (1, .int .u8 (x1.toNat : Int)), (2, .int .u8 (x2.toNat : Int)), (3, .int .u8 (x3.toNat : Int))] := by simp [h0, h1, h2, h3]
  have hf : Instr.fill (fun j => some (j * i.size, i.size)) ((Array.range (4 * i.size)).map ((Value.int .u8 0).cells[· % (Value.int .u8 0).cells.size]!)) ((#[(0, y0), (1, y1), (2, y2), (3, y3)] : Array (Nat × Operand)).map fun (i, x) => (i, a.eval x)).toList = some (bs [x0, x1, x2, x3]).toArray := by
    rw [hp, hsz]
    exact Great.fill_flat (bs [x0, x1, x2, x3]) _ (fun v hv => by simp [bs] at hv; rcases hv with rfl | rfl | rfl | rfl <;> rfl) (by simp [bs])
  exact wpList_buildSlice hgd t e 4 _ ho _ i _ hu hi hz (by rw [hsz]; decide) (by rw [hsz]; decide) hf (h _ (Has.new w (bs [x0, x1, x2, x3]).toArray e) ((Fr.refl _ w).alloc _) (by simp))
/-- an owned slice's cells: read and written -/
theorem Own.cells {w : World} {base : Nat} {T : TypeId} {v : Value} {n : Nat} {L : List Value} (h : Own w base T 1 v n L) (hn : 0 < n) :
    ∃ g o cap, v = .slice (some ⟨g, o, none⟩) n cap ∧ base ≤ g ∧ g < w.heap.size ∧ n ≤ cap ∧ cap ≤ maxLen ∧ (∀ i x, L[i]? = some x → w.cell? ⟨g, o + i, none⟩ = some x) ∧ (∀ i, i < n → w.frozen? ⟨g, o + i, none⟩ = false) ∧
      (∀ i x, i < n → Own (w.setCell ⟨g, o + i, none⟩ x) base T 1 v n (L.set i x)) := by
  obtain ⟨hl, h | ⟨g, o, cap, B, rfl, hb, hg, h1, h2, h3, h4⟩⟩ := h
  · obtain ⟨_, h0⟩ := h; omega
  · rw [Nat.mul_one] at h3 h4 hl
    refine ⟨g, o, cap, rfl, hb, hg.lt, h1, h2, ?_, ?_, ?_⟩
    · intro i x hx
      rw [← h4, List.getElem?_take] at hx
      split at hx
      · rw [List.getElem?_drop] at hx; exact hg.cell hx
      · cases hx
    · intro i hi; exact hg.free _ (by omega)
    · intro i x hi
      refine ⟨by rw [List.length_set, hl, Nat.mul_one], .inr ⟨g, o, cap, B.set (o + i) x, rfl, hb, hg.set (o + i) x, h1, h2, by rw [List.length_set]; omega, ?_⟩⟩
      rw [Nat.mul_one, ← h4]
      apply List.ext_getElem?
      intro j
      simp only [List.getElem?_take, List.getElem?_drop, List.getElem?_set]
      by_cases hj : j < n
      · rw [if_pos hj]
        by_cases e : i = j
        · subst e
          rw [if_pos rfl, if_pos rfl, if_pos (by omega), if_pos (by rw [List.length_take, List.length_drop]; omega)]
        · rw [if_neg (by omega), if_neg e, if_pos hj]
      · rw [if_neg hj]
        by_cases e : i = j
        · omega
        · rw [if_neg e, if_neg hj]
end Go.Mv

/- One-cell literals of any kind; owned slices and other blocks. -/
namespace Go.Mv
open Go.RowKit
variable {P : Program}
/-- a block of another type is not the slice's own -/
theorem Own.ne {w : World} {base sz n g : Nat} {T T' : TypeId} {v : Value} {L L' : List Value} (h : Own w base T sz v n L) (hg : Has w g L' T') (hT : T ≠ T') : ¬ OwnB v g := by
  intro hv
  obtain ⟨_, ⟨rfl, _⟩ | ⟨g', o, cap, B, rfl, _, hg', _⟩⟩ := h
  · cases hv
  · have : g' = g := by simpa [OwnB, Value.ownBlock] using hv
    subst this
    obtain ⟨_, _, h1, _⟩ := hg
    obtain ⟨_, _, h2, _⟩ := hg'
    rw [h1] at h2
    simp at h2
    exact hT h2.2.1.symm
end Go.Mv

/- What a call knows of the blocks that are its own: one fact for all of them. -/
namespace Go.Mv
open Go.RowKit
variable {P : Program}

/-- the blocks of bl hold what is told; each is new since w0, or may be written (S); no other block that was there at w0 has turned, but those of S -/
structure St (S : Nat → Prop) (w0 w : World) (bl : List (Nat × List Value × TypeId)) : Prop where
  fr : Fr S w0 w
  own : ∀ x ∈ bl, w0.heap.size ≤ x.1 ∨ S x.1
  has : ∀ x ∈ bl, Has w x.1 x.2.1 x.2.2
  ne : bl.Pairwise fun x y => x.1 ≠ y.1

theorem St.start (S : Nat → Prop) (w : World) : St S w w [] := ⟨Fr.refl _ _, by simp, by simp, List.Pairwise.nil⟩
theorem St.at {S : Nat → Prop} {w0 w : World} {bl : List (Nat × List Value × TypeId)} (h : St S w0 w bl) (i : Nat) {g : Nat} {L : List Value} {T : TypeId} (hi : bl[i]? = some (g, L, T)) : Has w g L T :=
  h.has _ (List.mem_of_getElem? hi)
theorem St.neAt {S : Nat → Prop} {w0 w : World} {bl : List (Nat × List Value × TypeId)} (h : St S w0 w bl) {i j : Nat} {x y : Nat × List Value × TypeId} (hi : bl[i]? = some x) (hj : bl[j]? = some y) (hij : i ≠ j) : x.1 ≠ y.1 := by
  obtain ⟨hi1, rfl⟩ := List.getElem?_eq_some_iff.1 hi
  obtain ⟨hj1, rfl⟩ := List.getElem?_eq_some_iff.1 hj
  rcases Nat.lt_or_ge i j with k | k
  · exact List.pairwise_iff_getElem.1 h.ne i j hi1 hj1 k
  · exact (List.pairwise_iff_getElem.1 h.ne j i hj1 hi1 (by omega)).symm
theorem St.keep {S : Nat → Prop} {w0 w w' : World} {bl : List (Nat × List Value × TypeId)} (h : St S w0 w bl) (hf : Fr Nob w w') : St S w0 w' bl :=
  ⟨h.fr.same hf, h.own, fun x hx => (h.has x hx).keep hf id, h.ne⟩
theorem St.drew {S : Nat → Prop} {w0 w : World} {bl : List (Nat × List Value × TypeId)} (h : St S w0 w bl) : St S w0 w.drew bl := ⟨h.fr.drew, h.own, h.has, h.ne⟩
theorem St.drewN {S : Nat → Prop} {w0 w : World} {bl : List (Nat × List Value × TypeId)} (h : St S w0 w bl) (n : Nat) : St S w0 (w.drewN n) bl := ⟨h.fr.drewN n, h.own, h.has, h.ne⟩
theorem St.less {S : Nat → Prop} {w0 w : World} {bl bl' : List (Nat × List Value × TypeId)} (h : St S w0 w bl) (hs : bl'.Sublist bl) : St S w0 w bl' :=
  ⟨h.fr, fun x hx => h.own x (hs.subset hx), fun x hx => h.has x (hs.subset hx), h.ne.sublist hs⟩
theorem St.new {S : Nat → Prop} {w0 w w' : World} {bl : List (Nat × List Value × TypeId)} (h : St S w0 w bl) (hf : Fr Nob w w') {g : Nat} {L : List Value} {T : TypeId} (hg : Has w' g L T) (hn : w.heap.size ≤ g) : St S w0 w' (bl ++ [(g, L, T)]) := by
  refine ⟨h.fr.same hf, ?_, ?_, ?_⟩
  · intro x hx
    rcases List.mem_append.1 hx with hx | hx
    · exact h.own x hx
    · simp only [List.mem_singleton] at hx
      subst hx
      exact .inl (Nat.le_trans h.fr.size hn)
  · intro x hx
    rcases List.mem_append.1 hx with hx | hx
    · exact (h.has x hx).keep hf id
    · simp only [List.mem_singleton] at hx
      subst hx
      exact hg
  · rw [List.pairwise_append]
    refine ⟨h.ne, List.pairwise_singleton _ _, ?_⟩
    intro x hx y hy
    simp only [List.mem_singleton] at hy
    subst hy
    have := (h.has x hx).lt
    show x.1 ≠ g
    omega
theorem St.put {S : Nat → Prop} {w0 w w' : World} {bl : List (Nat × List Value × TypeId)} (h : St S w0 w bl) (i : Nat) {g : Nat} {L L' : List Value} {T : TypeId} (hi : bl[i]? = some (g, L, T)) (hf : Fr (One g) w w') (hg : Has w' g L' T) : St S w0 w' (bl.set i (g, L', T)) := by
  obtain ⟨hi1, hi2⟩ := List.getElem?_eq_some_iff.1 hi
  refine ⟨?_, ?_, ?_, ?_⟩
  · refine h.fr.trans hf fun j hj hjg => ?_
    have hjg' : j = g := hjg
    subst hjg'
    rcases h.own _ (List.mem_of_getElem? hi) with k | k
    · have k' : w0.heap.size ≤ j := k
      omega
    · exact k
  · intro x hx
    rcases List.mem_or_eq_of_mem_set hx with hx | rfl
    · exact h.own x hx
    · exact h.own (g, L, T) (List.mem_of_getElem? hi)
  · intro x hx
    obtain ⟨j, hj1, hj2⟩ := List.mem_iff_getElem.1 hx
    rw [List.length_set] at hj1
    rw [List.getElem_set] at hj2
    by_cases e : i = j
    · rw [if_pos e] at hj2; subst hj2; exact hg
    · rw [if_neg e] at hj2
      subst hj2
      refine (h.has _ (List.getElem_mem hj1)).keep hf fun t => ?_
      exact h.neAt hi (List.getElem?_eq_getElem hj1) e (Eq.symm t)
  · rw [List.pairwise_iff_getElem]
    intro j k hj hk hjk
    have e := List.pairwise_iff_getElem.1 h.ne j k (by simpa using hj) (by simpa using hk) hjk
    rw [List.getElem_set, List.getElem_set]
    split
    · rename_i e1; subst e1
      rw [hi2] at e
      split
      · omega
      · exact e
    · split
      · rename_i e2; subst e2; rw [hi2] at e; exact e
      · exact e
/-- one cell of a block is written -/
theorem St.set {S : Nat → Prop} {w0 w : World} {bl : List (Nat × List Value × TypeId)} (h : St S w0 w bl) (i : Nat) {g : Nat} {L : List Value} {T : TypeId} (hi : bl[i]? = some (g, L, T)) (k : Nat) (v : Value) : St S w0 (w.setCell ⟨g, k, none⟩ v) (bl.set i (g, L.set k v, T)) :=
  h.put i hi ((Fr.refl (One g) w).setCell g k none v (fun _ => rfl)) ((h.at i hi).set k v)
/-- a block that came in is taken in -/
theorem St.take {S : Nat → Prop} {w0 w : World} {bl : List (Nat × List Value × TypeId)} (h : St S w0 w bl) {g : Nat} {L : List Value} {T : TypeId} (hg : Has w g L T) (hS : S g) (hn : ∀ x ∈ bl, x.1 ≠ g) : St S w0 w (bl ++ [(g, L, T)]) := by
  refine ⟨h.fr, ?_, ?_, ?_⟩
  · intro x hx
    rcases List.mem_append.1 hx with hx | hx
    · exact h.own x hx
    · simp only [List.mem_singleton] at hx; subst hx; exact .inr hS
  · intro x hx
    rcases List.mem_append.1 hx with hx | hx
    · exact h.has x hx
    · simp only [List.mem_singleton] at hx; subst hx; exact hg
  · rw [List.pairwise_append]
    refine ⟨h.ne, List.pairwise_singleton _ _, ?_⟩
    intro x hx y hy
    simp only [List.mem_singleton] at hy
    subst hy
    exact hn x hx
theorem St.one {w : World} {g : Nat} {L : List Value} {T : TypeId} (hg : Has w g L T) : St (One g) w w [(g, L, T)] := (St.start (One g) w).take hg rfl (by simp)

section
variable {w w0 : World} {ops : Array Oper} {rest : List Oper} {o : Oper} {a : Act} {Q : Exit → Act → World → Prop} {S : Nat → Prop} {bl : List (Nat × List Value × TypeId)}
theorem wl_boxS (hst : St S w0 w bl) {e : TypeId} {x : Operand} (hgd : o.guard = none) (ho : o.op = .box e x) {v : Value} (hx : a.eval x = v) (L : List Value) (hL : v.cells.toList = L)
    (h : ∀ g w', St S w0 w' (bl ++ [(g, L, e)]) → wpList P ops Q rest (a.put o.dst (.pointer (some ⟨g, 0, none⟩))) w') : wpList P ops Q (o :: rest) a w :=
  wl_box hgd ho hx L hL fun w' hg hf _ => h _ w' (hst.new hf hg (Nat.le_refl _))
theorem wl_allocS (hst : St S w0 w bl) {e : TypeId} (hgd : o.guard = none) (ho : o.op = .alloc e) {z : Value} (hi : (P.info? e).map (·.zero) = some (some z)) (L : List Value) (hL : z.cells.toList = L)
    (h : ∀ g w', St S w0 w' (bl ++ [(g, L, e)]) → wpList P ops Q rest (a.put o.dst (.pointer (some ⟨g, 0, none⟩))) w') : wpList P ops Q (o :: rest) a w :=
  wl_alloc hgd ho hi L hL fun w' hg hf _ => h _ w' (hst.new hf hg (Nat.le_refl _))
/-- a whole array is read -/
theorem wl_loadS (hst : St S w0 w bl) (i : Nat) {g : Nat} {L : List Value} {T : TypeId} (hb : bl[i]? = some (g, L, T)) {ty : TypeId} {x : Operand} (hgd : o.guard = none) (ho : o.op = .load ty x) {n : Nat} {e : TypeId} (hu : P.underlying ty = some (.array n e)) (hx : a.eval x = .pointer (some ⟨g, 0, none⟩))
    (hi : (P.info? ty).map (·.size) = some L.length) (h : wpList P ops Q rest (a.put o.dst (.agg L.toArray)) w) : wpList P ops Q (o :: rest) a w :=
  wl_loadA hgd ho hu hx (hst.at i hb) L (by rw [List.drop_zero, List.take_of_length_le (Nat.le_refl _)]) hi h
/-- a whole struct (or array) is read -/
theorem wl_loadSt (hst : St S w0 w bl) (i : Nat) {g : Nat} {L : List Value} {T : TypeId} (hb : bl[i]? = some (g, L, T)) {ty : TypeId} {x : Operand} (hgd : o.guard = none) (ho : o.op = .load ty x) {d : TypeDesc} (hu : P.underlying ty = some d) (hd : d.isRow = true) (hx : a.eval x = .pointer (some ⟨g, 0, none⟩))
    (hi : (P.info? ty).map (·.size) = some L.length) (h : wpList P ops Q rest (a.put o.dst (.agg L.toArray)) w) : wpList P ops Q (o :: rest) a w :=
  wpList_load_mid hgd ty x ho g 0 hx L _ ((hst.at i hb).range 0 L (by rw [List.drop_zero, List.take_of_length_le (Nat.le_refl _)])) hu hd hi h
/-- a whole array is stored -/
theorem wl_storeS (hst : St S w0 w bl) (i : Nat) {g : Nat} {L : List Value} {T : TypeId} (hb : bl[i]? = some (g, L, T)) {ty : TypeId} {x y : Operand} (hgd : o.guard = none) (ho : o.op = .store ty x y) (hx : a.eval x = .pointer (some ⟨g, 0, none⟩)) {cs : List Value} (hy : a.eval y = .agg cs.toArray)
    (hn : cs.length = L.length) (hi : (P.info? ty).map (·.size) = some cs.length) (h1 : ∀ v ∈ cs, v.oneCell' = true)
    (h : ∀ w', St S w0 w' (bl.set i (g, cs, T)) → wpList P ops Q rest (a.put o.dst undef) w') : wpList P ops Q (o :: rest) a w :=
  wl_storeA hgd ho hx hy (hst.at i hb) (by omega) hi h1 fun w' hg hf _ => h w' (hst.put i hb hf (by rwa [splice_whole _ _ hn] at hg))
end
end Go.Mv

/- Plain numbers: a number as words of 64 bits; sums, differences and products word by word. -/
namespace Mvp

/-- 2^64 -/
abbrev B64 : Nat := 18446744073709551616
/-- the i-th word -/
def lw (a i : Nat) : Nat := a / B64 ^ i % B64
def limbs (n a : Nat) : List Nat := (List.range n).map (lw a)
/-- the k lowest words of A, above them those of B -/
def mix (A B k : Nat) : Nat := A % B64 ^ k + B / B64 ^ k * B64 ^ k

theorem b64_pos (k : Nat) : 0 < B64 ^ k := Nat.pow_pos (by decide)
theorem lw_lt (a i : Nat) : lw a i < 18446744073709551616 := Nat.mod_lt _ (by decide)
theorem limbs_length (n a : Nat) : (limbs n a).length = n := by simp [limbs]
theorem limbs_get (n a i : Nat) (h : i < n) : (limbs n a)[i]? = some (lw a i) := by simp [limbs, h]
theorem lw_mod (a i k : Nat) (h : i < k) : lw (a % B64 ^ k) i = lw a i := by
  unfold lw
  obtain ⟨j, rfl⟩ : ∃ j, k = i + (1 + j) := ⟨k - i - 1, by omega⟩
  rw [Nat.pow_add, Nat.mod_mul_right_div_self, Nat.pow_add, Nat.pow_one, Nat.mod_mul_right_mod]
theorem lw_div (a k i : Nat) : lw (a / B64 ^ k) i = lw a (k + i) := by
  unfold lw
  rw [Nat.div_div_eq_div_mul, ← Nat.pow_add]
theorem mix_mod (A B k : Nat) : mix A B k % B64 ^ k = A % B64 ^ k := by
  unfold mix
  rw [Nat.add_mul_mod_self_right, Nat.mod_mod]
theorem mix_div (A B k : Nat) : mix A B k / B64 ^ k = B / B64 ^ k := by
  unfold mix
  rw [Nat.add_mul_div_right _ _ (b64_pos k), Nat.div_eq_of_lt (Nat.mod_lt _ (b64_pos k)), Nat.zero_add]
theorem lw_mix (A B k i : Nat) : lw (mix A B k) i = if i < k then lw A i else lw B i := by
  split
  · rename_i h
    rw [← lw_mod _ i k h, mix_mod, lw_mod _ i k h]
  · rename_i h
    obtain ⟨j, rfl⟩ : ∃ j, i = k + j := ⟨i - k, by omega⟩
    rw [← lw_div, ← lw_div, mix_div]
theorem limbs_ext {n a b : Nat} (h : ∀ i, i < n → lw a i = lw b i) : limbs n a = limbs n b := by
  unfold limbs
  apply List.map_congr_left
  intro i hi
  exact h i (List.mem_range.1 hi)
theorem limbs_set (n A B k : Nat) (h : k < n) : (limbs n (mix A B k)).set k (lw A k) = limbs n (mix A B (k + 1)) := by
  have _h := h
  apply List.ext_getElem?
  intro i
  rw [List.getElem?_set]
  rcases Nat.lt_or_ge i n with hi | hi
  · rw [limbs_get _ _ _ hi, limbs_get _ _ _ hi, lw_mix, lw_mix, limbs_length]
    by_cases e : k = i
    · subst e; simp [h]
    · rw [if_neg e]
      congr 1
      by_cases h2 : i < k
      · rw [if_pos h2, if_pos (by omega)]
      · rw [if_neg h2, if_neg (by omega)]
  · rw [List.getElem?_eq_none (by rw [limbs_length]; exact hi), List.getElem?_eq_none (by rw [limbs_length]; exact hi)]
    split
    · rw [limbs_length, if_neg (by omega)]
    · rfl
theorem mix_zero (A B : Nat) : mix A B 0 = B := by simp [mix, Nat.mod_one]
theorem mix_top (A B k : Nat) (h : B < B64 ^ k) : mix A B k = A % B64 ^ k := by
  unfold mix
  rw [Nat.div_eq_of_lt h, Nat.zero_mul, Nat.add_zero]
theorem limbs_mod (n a : Nat) : limbs n (a % B64 ^ n) = limbs n a := limbs_ext fun i hi => lw_mod a i n hi
theorem mod_succ (a k : Nat) : a % B64 ^ (k + 1) = a % B64 ^ k + B64 ^ k * lw a k := by
  unfold lw
  rw [Nat.pow_succ, Nat.mod_mul]
/-- numbers of n words are the same if their words are -/
theorem limbs_mod_inj {n a b : Nat} (h : limbs n a = limbs n b) : a % B64 ^ n = b % B64 ^ n := by
  have hw : ∀ i, i < n → lw a i = lw b i := fun i hi => by
    have h1 := limbs_get n a i hi
    rw [h, limbs_get n b i hi] at h1
    exact (Option.some.inj h1).symm
  clear h
  induction n with
  | zero => simp [Nat.mod_one]
  | succ k ih => rw [mod_succ, mod_succ, ih (fun i hi => hw i (by omega)), hw k (by omega)]
/-- the carry behind k words of a sum -/
def cAdd (a b k : Nat) : Nat := (a % B64 ^ k + b % B64 ^ k) / B64 ^ k
theorem cAdd_zero (a b : Nat) : cAdd a b 0 = 0 := by simp [cAdd, Nat.mod_one]
theorem cAdd_le (a b k : Nat) : cAdd a b k ≤ 1 := by
  unfold cAdd
  have h := b64_pos k
  have h1 := Nat.mod_lt a h
  have h2 := Nat.mod_lt b h
  generalize B64 ^ k = W at *
  exact Nat.le_of_lt_succ (Nat.div_lt_of_lt_mul (by omega))
theorem cAdd_succ (a b k : Nat) : cAdd a b (k + 1) = (lw a k + lw b k + cAdd a b k) / 18446744073709551616 := by
  unfold cAdd
  rw [mod_succ, mod_succ, Nat.pow_succ, ← Nat.div_div_eq_div_mul]
  congr 1
  have e : a % B64 ^ k + B64 ^ k * lw a k + (b % B64 ^ k + B64 ^ k * lw b k) = (a % B64 ^ k + b % B64 ^ k) + B64 ^ k * (lw a k + lw b k) := by rw [Nat.mul_add]; omega
  rw [e, Nat.add_mul_div_left _ _ (b64_pos k)]
  omega
theorem lw_add (a b k : Nat) : lw (a + b) k = (lw a k + lw b k + cAdd a b k) % 18446744073709551616 := by
  unfold lw cAdd
  have h := b64_pos k
  have e : a + b = (a % B64 ^ k + b % B64 ^ k) + B64 ^ k * (a / B64 ^ k + b / B64 ^ k) := by
    have h1 := Nat.div_add_mod a (B64 ^ k)
    have h2 := Nat.div_add_mod b (B64 ^ k)
    rw [Nat.mul_add]; omega
  have e2 : (a + b) / B64 ^ k = (a % B64 ^ k + b % B64 ^ k) / B64 ^ k + (a / B64 ^ k + b / B64 ^ k) := by
    conv => lhs; rw [e]
    rw [Nat.add_mul_div_left _ _ h]
  rw [e2]
  generalize (a % B64 ^ k + b % B64 ^ k) / B64 ^ k = x
  generalize a / B64 ^ k = y
  generalize b / B64 ^ k = z
  show (x + (y + z)) % 18446744073709551616 = (y % 18446744073709551616 + z % 18446744073709551616 + x) % 18446744073709551616
  omega
theorem cAdd_all (a b k : Nat) (ha : a < B64 ^ k) (hb : b < B64 ^ k) : cAdd a b k = (a + b) / B64 ^ k := by
  unfold cAdd; rw [Nat.mod_eq_of_lt ha, Nat.mod_eq_of_lt hb]

/-- the borrow behind k words of a difference -/
def cSub (a b k : Nat) : Nat := if a % B64 ^ k < b % B64 ^ k then 1 else 0
theorem cSub_zero (a b : Nat) : cSub a b 0 = 0 := by simp [cSub, Nat.mod_one]
theorem cSub_le (a b k : Nat) : cSub a b k ≤ 1 := by unfold cSub; split <;> omega
theorem cSub_succ (a b k : Nat) : cSub a b (k + 1) = if lw a k < lw b k + cSub a b k then 1 else 0 := by
  unfold cSub
  rw [mod_succ, mod_succ]
  have h := b64_pos k
  have h1 := Nat.mod_lt a h
  have h2 := Nat.mod_lt b h
  generalize lw a k = x
  generalize lw b k = y
  generalize a % B64 ^ k = p at *
  generalize b % B64 ^ k = q at *
  generalize B64 ^ k = W at *
  rcases Nat.lt_trichotomy x y with hxy | hxy | hxy
  · obtain ⟨d, rfl⟩ : ∃ d, y = x + 1 + d := ⟨y - x - 1, by omega⟩
    have e : W * (x + 1 + d) = W * x + W + W * d := by rw [Nat.mul_add, Nat.mul_add, Nat.mul_one]
    rw [e]
    rw [if_pos (by omega), if_pos (by omega)]
  · subst hxy
    by_cases hpq : p < q
    · rw [if_pos hpq, if_pos (by omega), if_pos (by omega)]
    · rw [if_neg hpq, if_neg (by omega), if_neg (by omega)]
  · obtain ⟨d, rfl⟩ : ∃ d, x = y + 1 + d := ⟨x - y - 1, by omega⟩
    have e : W * (y + 1 + d) = W * y + W + W * d := by rw [Nat.mul_add, Nat.mul_add, Nat.mul_one]
    rw [e]
    rw [if_neg (by omega), if_neg (by split <;> omega)]
/-- a difference of n words: D = a + 2^(64 n) - b -/
theorem lw_sub (n a b k : Nat) (hb : b < B64 ^ n) (hk : k < n) : lw (a + B64 ^ n - b) k = (lw a k + 18446744073709551616 - lw b k - cSub a b k) % 18446744073709551616 := by
  obtain ⟨j, rfl⟩ : ∃ j, n = k + (1 + j) := ⟨n - k - 1, by omega⟩
  have hW := b64_pos k
  have hT := b64_pos j
  have hN : B64 ^ (k + (1 + j)) = B64 ^ k * (B64 * B64 ^ j) := by rw [Nat.pow_add, Nat.pow_add, Nat.pow_one]
  rw [hN] at hb ⊢
  have ha1 := Nat.div_add_mod a (B64 ^ k)
  have hb1 := Nat.div_add_mod b (B64 ^ k)
  have ha2 := Nat.mod_lt a hW
  have hb2 := Nat.mod_lt b hW
  have hbh : b / B64 ^ k < B64 * B64 ^ j := Nat.div_lt_of_lt_mul hb
  unfold lw cSub
  generalize a / B64 ^ k = x at *
  generalize b / B64 ^ k = y at *
  generalize a % B64 ^ k = p at *
  generalize b % B64 ^ k = q at *
  generalize B64 ^ j = T at *
  generalize B64 ^ k = W at *
  have hq : ∃ c, c ≤ 1 ∧ (c = if p < q then 1 else 0) ∧ p + c * W < q + W ∧ q ≤ p + c * W := by
    by_cases h : p < q
    · exact ⟨1, by omega, by rw [if_pos h], by omega, by omega⟩
    · exact ⟨0, by omega, by rw [if_neg h], by omega, by omega⟩
  obtain ⟨c, hc1, hc2, hc3, hc4⟩ := hq
  rw [← hc2]
  have hyc : y + c ≤ x + B64 * T := by omega
  have e : (a + W * (B64 * T) - b) / W = x + B64 * T - y - c := by
    have h1 : a + W * (B64 * T) - b = W * (x + B64 * T - y - c) + (p + c * W - q) := by
      have h2 : W * (x + B64 * T - y - c) + W * (y + c) = W * x + W * (B64 * T) := by
        rw [← Nat.mul_add, ← Nat.mul_add]; congr 1; omega
      have h3 : W * (y + c) = W * y + c * W := by rw [Nat.mul_add, Nat.mul_comm W c]
      generalize W * (x + B64 * T - y - c) = u at *
      generalize W * (B64 * T) = v at *
      generalize W * (y + c) = z at *
      omega
    rw [h1, Nat.mul_add_div hW, Nat.div_eq_of_lt (by omega), Nat.add_zero]
  rw [e]
  show (x + 18446744073709551616 * T - y - c) % 18446744073709551616 = (x % 18446744073709551616 + 18446744073709551616 - y % 18446744073709551616 - c) % 18446744073709551616
  have hyc' : y + c ≤ x + 18446744073709551616 * T := hyc
  omega
theorem cSub_all (a b k : Nat) (ha : a < B64 ^ k) (hb : b < B64 ^ k) : cSub a b k = if a < b then 1 else 0 := by
  unfold cSub; rw [Nat.mod_eq_of_lt ha, Nat.mod_eq_of_lt hb]

/-- the carry behind k words of L + x n -/
def cMul (L x n k : Nat) : Nat := (L % B64 ^ k + x * (n % B64 ^ k)) / B64 ^ k
theorem cMul_zero (L x n : Nat) : cMul L x n 0 = 0 := by simp [cMul, Nat.mod_one]
theorem cMul_lt (L x n k : Nat) (hx : x < 18446744073709551616) : cMul L x n k < 18446744073709551616 := by
  unfold cMul
  have h := b64_pos k
  have h1 := Nat.mod_lt L h
  have h2 := Nat.mod_lt n h
  have h3 : x * (n % B64 ^ k) ≤ 18446744073709551615 * (n % B64 ^ k) := Nat.mul_le_mul_right _ (by omega)
  generalize B64 ^ k = W at *
  refine Nat.div_lt_of_lt_mul ?_
  omega
theorem cMul_succ (L x n k : Nat) : cMul L x n (k + 1) = (lw L k + x * lw n k + cMul L x n k) / 18446744073709551616 := by
  unfold cMul
  rw [mod_succ, mod_succ, Nat.pow_succ, ← Nat.div_div_eq_div_mul]
  congr 1
  have e : L % B64 ^ k + B64 ^ k * lw L k + x * (n % B64 ^ k + B64 ^ k * lw n k) = (L % B64 ^ k + x * (n % B64 ^ k)) + B64 ^ k * (lw L k + x * lw n k) := by
    rw [Nat.mul_add, Nat.mul_add, Nat.mul_left_comm x]; omega
  rw [e, Nat.add_mul_div_left _ _ (b64_pos k)]
  omega
theorem lw_madd (L x n k : Nat) : lw (L + x * n) k = (lw L k + x * lw n k + cMul L x n k) % 18446744073709551616 := by
  unfold lw cMul
  have h := b64_pos k
  have e : L + x * n = (L % B64 ^ k + x * (n % B64 ^ k)) + B64 ^ k * (L / B64 ^ k + x * (n / B64 ^ k)) := by
    have h1 := Nat.div_add_mod L (B64 ^ k)
    have h2 := Nat.div_add_mod n (B64 ^ k)
    have h3 : x * n = x * (B64 ^ k * (n / B64 ^ k)) + x * (n % B64 ^ k) := by rw [← Nat.mul_add, h2]
    have h4 : x * (B64 ^ k * (n / B64 ^ k)) = B64 ^ k * (x * (n / B64 ^ k)) := Nat.mul_left_comm _ _ _
    rw [Nat.mul_add]; omega
  have e2 : (L + x * n) / B64 ^ k = (L % B64 ^ k + x * (n % B64 ^ k)) / B64 ^ k + (L / B64 ^ k + x * (n / B64 ^ k)) := by
    conv => lhs; rw [e]
    rw [Nat.add_mul_div_left _ _ h]
  rw [e2]
  generalize (L % B64 ^ k + x * (n % B64 ^ k)) / B64 ^ k = u
  generalize L / B64 ^ k = y
  generalize n / B64 ^ k = z
  show (u + (y + x * z)) % 18446744073709551616 = (y % 18446744073709551616 + x * (z % 18446744073709551616) + u) % 18446744073709551616
  have e3 : x * (z % 18446744073709551616) % 18446744073709551616 = x * z % 18446744073709551616 := Nat.mul_mod_mod _ _ _
  generalize x * (z % 18446744073709551616) = s at *
  generalize x * z = t at *
  omega
theorem cMul_all (L x n k : Nat) (hL : L < B64 ^ k) (hn : n < B64 ^ k) : cMul L x n k = (L + x * n) / B64 ^ k := by
  unfold cMul; rw [Nat.mod_eq_of_lt hL, Nat.mod_eq_of_lt hn]
/-- one round of a line: what is told by Mul64 and two times Add64 -/
theorem line_round (p t c : Nat) (hp : p ≤ 18446744073709551615 * 18446744073709551615) (hc : c < 18446744073709551616) :
    (t + (p % 18446744073709551616 + c) % 18446744073709551616) % 18446744073709551616 = (t + p + c) % 18446744073709551616 ∧
    p / 18446744073709551616 + (p % 18446744073709551616 + c) / 18446744073709551616 < 18446744073709551616 ∧
    p / 18446744073709551616 + (p % 18446744073709551616 + c) / 18446744073709551616 + (t + (p % 18446744073709551616 + c) % 18446744073709551616) / 18446744073709551616 = (t + p + c) / 18446744073709551616 := by
  omega
/-- the same with a name for each word -/
theorem line_names (p t c : Nat) (hp : p ≤ 18446744073709551615 * 18446744073709551615) (hc : c < 18446744073709551616) :
    ∃ hi lo lo2 c1 t2 c2 : Nat, p / 18446744073709551616 = hi ∧ p % 18446744073709551616 = lo ∧ (lo + c) % 18446744073709551616 = lo2 ∧ (lo + c) / 18446744073709551616 = c1 ∧ hi + c1 < 18446744073709551616 ∧
      (t + lo2) % 18446744073709551616 = t2 ∧ (t + lo2) / 18446744073709551616 = c2 ∧ t2 = (t + p + c) % 18446744073709551616 ∧ hi + c1 + c2 = (t + p + c) / 18446744073709551616 := by
  obtain ⟨h1, h2, h3⟩ := line_round p t c hp hc
  exact ⟨_, _, _, _, _, _, rfl, rfl, rfl, rfl, h2, rfl, rfl, h1, h3⟩
theorem word_mul_le {x y : Nat} (hx : x < 18446744073709551616) (hy : y < 18446744073709551616) : x * y ≤ 18446744073709551615 * 18446744073709551615 :=
  Nat.mul_le_mul (by omega) (by omega)

/- the words of a product that begins at word i -/
theorem lw_shift_lo (P Q i j : Nat) (h : j < i) : lw (P + B64 ^ i * Q) j = lw P j := by
  rw [← lw_mod _ j i h, Nat.add_mul_mod_self_left, lw_mod _ j i h]
theorem lw_shift_hi (P Q i k : Nat) : lw (P + B64 ^ i * Q) (i + k) = lw (P / B64 ^ i + Q) k := by
  rw [← lw_div, Nat.add_mul_div_left _ _ (b64_pos i)]
theorem lw_top (a n i : Nat) (h : a < B64 ^ n) (hi : n ≤ i) : lw a i = 0 := by
  unfold lw
  rw [Nat.div_eq_of_lt (Nat.lt_of_lt_of_le h (Nat.pow_le_pow_right (by decide) hi)), Nat.zero_mod]
/- a product row by row -/
theorem row_next (a b i : Nat) : a % B64 ^ i * b + B64 ^ i * (lw a i * b) = a % B64 ^ (i + 1) * b := by
  rw [mod_succ, Nat.add_mul, Nat.mul_assoc]
/- what stands above 2^256 comes back -/
/- the two words above a line -/
theorem line_top (V x n : Nat) (hn : n < B64 ^ 4) (hV : V + x * n < B64 ^ 6) (hVV : V < B64 ^ 6) :
    (lw V 4 + cMul V x n 4) % 18446744073709551616 = lw (V + x * n) 4 ∧ lw V 5 + (lw V 4 + cMul V x n 4) / 18446744073709551616 = lw (V + x * n) 5 ∧ lw V 5 + (lw V 4 + cMul V x n 4) / 18446744073709551616 < 18446744073709551616 := by
  have z4 : lw n 4 = 0 := lw_top n 4 4 hn (by decide)
  have z5 : lw n 5 = 0 := lw_top n 4 5 hn (by decide)
  have h4 := lw_madd V x n 4
  have h5 := lw_madd V x n 5
  have c5 := cMul_succ V x n 4
  have c6 := cMul_succ V x n 5
  rw [z4, Nat.mul_zero, Nat.add_zero] at h4 c5
  rw [z5, Nat.mul_zero, Nat.add_zero] at h5 c6
  have hc6 : cMul V x n 6 = 0 := by
    rw [cMul_all V x n 6 hVV (Nat.lt_trans hn (by decide))]
    exact Nat.div_eq_of_lt hV
  rw [hc6] at c6
  rw [c5] at h5 c6
  try rw [Nat.add_zero] at h5
  try rw [Nat.add_zero] at c6
  have : lw V 5 + (lw V 4 + cMul V x n 4) / 18446744073709551616 < 18446744073709551616 := by omega
  exact ⟨h4.symm, by rw [h5, Nat.mod_eq_of_lt this], this⟩
theorem word0 (V : Nat) : lw V 0 = V % 18446744073709551616 := by simp [lw]

/-- a step of Montgomery's product -/
def mstep (M neg b T x : Nat) : Nat := (T + x * b + ((T + x * b) % 18446744073709551616 * neg % 18446744073709551616) * M) / 18446744073709551616
def montT (M neg b a : Nat) : Nat → Nat
  | 0 => 0
  | k + 1 => mstep M neg b (montT M neg b a k) (lw a k)
theorem mstep_exact (M neg b T x : Nat) (hneg : (M * neg + 1) % 18446744073709551616 = 0) :
    mstep M neg b T x * 18446744073709551616 = T + x * b + ((T + x * b) % 18446744073709551616 * neg % 18446744073709551616) * M := by
  unfold mstep
  generalize hV : T + x * b = V
  generalize hm : V % 18446744073709551616 * neg % 18446744073709551616 = m
  have key : (V + m * M) % 18446744073709551616 = 0 := by
    have h1 : (m * M) % 18446744073709551616 = (V * neg * M) % 18446744073709551616 := by
      rw [← hm, Nat.mod_mul_mod, Nat.mul_assoc, Nat.mod_mul_mod, ← Nat.mul_assoc]
    have h2 : V + V * neg * M = V * (M * neg + 1) := by rw [Nat.mul_add, Nat.mul_one, Nat.mul_assoc, Nat.mul_comm neg, Nat.add_comm]
    rw [Nat.add_mod, h1, ← Nat.add_mod, h2, Nat.mul_mod, hneg, Nat.mul_zero, Nat.zero_mod]
  have := Nat.div_add_mod (V + m * M) 18446744073709551616
  rw [key, Nat.add_zero, Nat.mul_comm] at this
  exact this
theorem mstep_lt (M neg b T x : Nat) (_ : 0 < M) (hT : T < b + M) (hx : x < 18446744073709551616) : mstep M neg b T x < b + M := by
  unfold mstep
  refine Nat.div_lt_of_lt_mul ?_
  generalize hm : (T + x * b) % 18446744073709551616 * neg % 18446744073709551616 = m
  have hm' : m < 18446744073709551616 := by rw [← hm]; exact Nat.mod_lt _ (by decide)
  have h1 : x * b ≤ 18446744073709551615 * b := Nat.mul_le_mul_right _ (by omega)
  have h2 : m * M ≤ 18446744073709551615 * M := Nat.mul_le_mul_right _ (by omega)
  omega
theorem montT_lt (M neg b a k : Nat) (hM : 0 < M) : montT M neg b a k < b + M := by
  induction k with
  | zero => show 0 < _; omega
  | succ k ih => exact mstep_lt _ _ _ _ _ hM ih (lw_lt a k)
theorem montT_mod (M neg b a k : Nat) (hneg : (M * neg + 1) % 18446744073709551616 = 0) : montT M neg b a k * B64 ^ k % M = a % B64 ^ k * b % M := by
  induction k with
  | zero => simp [montT, Nat.mod_one]
  | succ k ih =>
    show mstep _ _ _ _ _ * B64 ^ (k + 1) % M = _
    rw [← row_next, Nat.pow_succ, Nat.mul_comm (B64 ^ k), ← Nat.mul_assoc, mstep_exact M neg b _ _ hneg]
    generalize (montT M neg b a k + lw a k * b) % 18446744073709551616 * neg % 18446744073709551616 = m
    have e : (montT M neg b a k + lw a k * b + m * M) * B64 ^ k = montT M neg b a k * B64 ^ k + B64 ^ k * (lw a k * b) + M * (m * B64 ^ k) := by
      rw [Nat.add_mul, Nat.add_mul, Nat.mul_comm (lw a k * b), Nat.mul_right_comm m, Nat.mul_comm (m * B64 ^ k)]
    rw [e, Nat.add_mul_mod_self_left, Nat.add_mod, ih, ← Nat.add_mod]
/-- what a product of Montgomery's is -/
theorem mont_value (M neg Ri a b : Nat) (_ : 0 < M) (ha : a < B64 ^ 4) (hneg : (M * neg + 1) % 18446744073709551616 = 0) (hRi : B64 ^ 4 * Ri % M = 1 % M) :
    montT M neg b a 4 % M = a * b * Ri % M := by
  have h := montT_mod M neg b a 4 hneg
  rw [Nat.mod_eq_of_lt ha] at h
  generalize montT M neg b a 4 = T at *
  have h1 : T * B64 ^ 4 * Ri % M = a * b * Ri % M := by rw [Nat.mul_mod, h, ← Nat.mul_mod]
  rw [← h1, Nat.mul_assoc, Nat.mul_mod, hRi, ← Nat.mul_mod, Nat.mul_one]
theorem mod_of_lt2 (T M : Nat) (h : T < 2 * M) : T % M = if T < M then T else T - M := by
  split
  · rename_i h'; exact Nat.mod_eq_of_lt h'
  · rename_i h'; rw [Nat.mod_eq_sub_mod (by omega), Nat.mod_eq_of_lt (by omega)]
end Mvp

/- Words of 64 bits in memory, as natural numbers; math/bits.Add64, Sub64, Mul64. -/
namespace Go.Mv
open Go.RowKit Mvp
variable {P : Program}

/-- words, as cells -/
def us (l : List Nat) : List Value := l.map fun (x : Nat) => .int .u64 (x : Int)
theorem length_us (l : List Nat) : (us l).length = l.length := by simp [us]
theorem us_get (l : List Nat) (i x : Nat) (h : l[i]? = some x) : (us l)[i]? = some (.int .u64 (x : Int)) := by simp [us, h]
theorem us_set (l : List Nat) (i : Nat) (x : Nat) : (us l).set i (.int .u64 (x : Int)) = us (l.set i x) := by simp [us]
theorem us_one (l : List Nat) : ∀ v ∈ us l, v.oneCell' = true := by intro v hv; simp [us] at hv; obtain ⟨x, _, rfl⟩ := hv; rfl
/-- n words -/
def cw (n a : Nat) : List Value := us (limbs n a)
theorem cw_len (n a : Nat) : (cw n a).length = n := by rw [cw, length_us, limbs_length]
theorem cw_get (n a i : Nat) (h : i < n) : (cw n a)[i]? = some (.int .u64 (lw a i : Nat)) := us_get _ _ _ (limbs_get n a i h)
theorem cw_set (n A B k : Nat) (h : k < n) : (cw n (mix A B k)).set k (.int .u64 (lw A k : Nat)) = cw n (mix A B (k + 1)) := by
  rw [cw, us_set, limbs_set n A B k h, cw]
theorem cw_one (n a : Nat) : ∀ v ∈ cw n a, v.oneCell' = true := us_one _
theorem cw_mod (n a : Nat) : cw n (a % B64 ^ n) = cw n a := by rw [cw, limbs_mod, cw]
/-- four words by value -/
def i4 (a : Nat) : Value := .agg (cw 4 a).toArray
theorem cw_ext {n a b : Nat} (h : ∀ i, i < n → lw a i = lw b i) : cw n a = cw n b := by rw [cw, limbs_ext h, cw]
theorem mix_full (A B n : Nat) : cw n (mix A B n) = cw n A := cw_ext fun i hi => by rw [lw_mix, if_pos hi]
theorem cw_zero (n : Nat) : cw n 0 = List.replicate n (.int .u64 0) := by
  apply List.ext_getElem?
  intro i
  rcases Nat.lt_or_ge i n with h | h
  · rw [cw_get _ _ _ h, List.getElem?_replicate, if_pos h]; simp [lw]
  · rw [List.getElem?_eq_none (by rw [cw_len]; exact h), List.getElem?_replicate, if_neg (by omega)]

theorem run_index_cw {t e : TypeId} {m : Nat} (ht : P.underlying t = some (.array m e)) (he : P.underlying e = some (.int .u64)) (hi0 : (P.info? e).map (·.size) = some 1) (a k : Nat) (hk : k < m) (ki : IntKind) (w : World) :
    (Instr.index t (.agg (cw m a).toArray) (.int ki (k : Int))).run P w = .ok (.int .u64 (lw a k : Nat)) w := by
  obtain ⟨j, hj, hsz⟩ : ∃ j, P.info? e = some j ∧ j.size = 1 := by simpa using hi0
  have h1 : (0 : Int) ≤ (k : Int) ∧ (k : Int) < (m : Int) := by omega
  have hv := cw_get m a k hk
  simp [Instr.index, asIntOf, run_underlying ht, sizeOf, typeInfo, hj, hsz, part, isAgg, run_underlying he, h1, hv]
  intro h; omega
/-- the results are an array in memory and a slot -/
theorem results_arr2 {fn : Func} {p : Tmp} {ty : TypeId} {s : Tmp} (h : fn.results = #[.cell p ty, .tmp s]) {tmps : Array Value} {w : World} {g : Nat} {L : List Value} {T : TypeId}
    (hp : tmps.getD p undef = .pointer (some ⟨g, 0, none⟩)) (hg : Has w g L T) {n : Nat} {e : TypeId} (hu : P.underlying ty = some (.array n e)) (hi : (P.info? ty).map (·.size) = some L.length) {v : Value} (hv : tmps.getD s undef = v) :
    (results fn tmps).run P w = .ok (.tuple #[.agg L.toArray, v]) w := by
  obtain ⟨lo, hi', hh, -⟩ := hg
  have hp' : tmps[p]?.getD undef = .pointer (some ⟨g, 0, none⟩) := by simpa using hp
  have hv' : tmps[s]?.getD undef = v := by simpa using hv
  simp [results, h, hp', hv', asAddr, run_loadVar_row w g T ty L.toArray _ _ hh hu rfl (by simpa using hi)]
theorem i4_words (a : Nat) : i4 a = .agg #[.int .u64 (lw a 0 : Nat), .int .u64 (lw a 1 : Nat), .int .u64 (lw a 2 : Nat), .int .u64 (lw a 3 : Nat)] := rfl
theorem i4_mod (V : Nat) : i4 (V % B64 ^ 4) = i4 V := by rw [i4, cw_mod, ← i4]
theorem St.setCells {S : Nat → Prop} {w0 w : World} {bl : List (Nat × List Value × TypeId)} (h : St S w0 w bl) (i : Nat) {g : Nat} {L : List Value} {T : TypeId} (hb : bl[i]? = some (g, L, T)) (cs : List Value) (hn : cs.length = L.length) : St S w0 (w.setCells g 0 cs) (bl.set i (g, cs, T)) := by
  obtain ⟨k1, k2, _⟩ := Has.setCells cs 0 L w (h.at i hb) (by omega)
  rw [splice_whole _ _ hn] at k1
  exact h.put i hb k2 k1
theorem neg_words (p a : Nat) (h : a ≤ p) : i4 (p + B64 ^ 4 - a) = i4 (p - a) := by
  rw [← i4_mod, show p + B64 ^ 4 - a = (p - a) + B64 ^ 4 by omega, Nat.add_mod_right, i4_mod]
theorem small_words (n : Nat) (h : n < 18446744073709551616) : .agg #[.int .u64 (n : Int), .int .u64 0, .int .u64 0, .int .u64 0] = i4 n := by
  have h0 : lw n 0 = n := by simp only [lw, Nat.pow_zero, Nat.div_one]; exact Nat.mod_eq_of_lt h
  have ht := fun i (hi : 1 ≤ i) => lw_top n 1 i (by rw [Nat.pow_one]; exact h) hi
  rw [i4_words, h0, ht 1 (by decide), ht 2 (by decide), ht 3 (by decide)]
  rfl
end Go.Mv
namespace Go.Proofs.YtemcankmggmgoaaDoor
open Go.RowKit Go.Mv Mvp
def Tryd.lays264_ren : Go.Shelf.Ren := ⟨fun | 264 => 73 | n => n, fun | 46 => 95 | 53 => 32 | n => n, fun | n => n⟩
theorem Tryd.lays264 : Go.Proofs.Lays.n264 Tryd.prog Tryd.lays264_ren := {
  mixed := by kernel_rfl
  f264 := Tryd.func73.trans (congrArg some (by kernel_rfl))
  t46 := Tryd.underlying95
  a46 := Tryd.isAgg95
  z46 := Tryd.sizeOf95
  v46 := Tryd.zeroValue95
  t53 := Tryd.underlying32
  a53 := Tryd.isAgg32
  z53 := Tryd.sizeOf32
  v53 := Tryd.zeroValue32 }
theorem add64_run (x y c : Nat) (hc : c ≤ 1) (w : World) : (callFunc 74 #[.int .u64 x, .int .u64 y, .int .u64 c]).run Tryd.prog w =
      .ok (.value (.tuple #[.int .u64 (((x + y + c) % 18446744073709551616 : Nat) : Int), .int .u64 (((x + y + c) / 18446744073709551616 : Nat) : Int)])) w := by
  rw [run_callFunc_extern Tryd.func74 (by kernel_rfl) (by kernel_rfl) (by kernel_rfl) (e := add64Entry) (by kernel_rfl), run_add64 x y c (by omega) (by omega) (by omega) (by omega)]
  simp only [Result.andThen]
  congr 5 <;> omega
theorem add64_run0 (x y s c : Nat) (h1 : (x + y) % 18446744073709551616 = s) (h2 : (x + y) / 18446744073709551616 = c) (w : World) : (callFunc 74 #[.int .u64 x, .int .u64 y, .int .u64 0]).run Tryd.prog w =
      .ok (.value (.tuple #[.int .u64 (s : Int), .int .u64 (c : Int)])) w := by
  have h := add64_run x y 0 (by omega) w
  rw [Nat.add_zero, h1, h2] at h
  exact h
theorem sub64_run (x y b : Nat) (hb : b ≤ 1) (w : World) : (callFunc 68 #[.int .u64 x, .int .u64 y, .int .u64 b]).run Tryd.prog w =
      .ok (.value (.tuple #[.int .u64 (((x + 18446744073709551616 - y - b) % 18446744073709551616 : Nat) : Int), .int .u64 ((if x < y + b then 1 else 0 : Nat) : Int)])) w := by
  rw [run_callFunc_extern Tryd.func68 (by kernel_rfl) (by kernel_rfl) (by kernel_rfl) (e := sub64Entry) (by kernel_rfl), run_sub64 x y b hb]
  rfl
/-- two results in slots -/
theorem mul64_any (x y : Nat) (hx : x < 18446744073709551616) (hy : y < 18446744073709551616) (w : World) :
    Calls Tryd.prog 73 #[.int .u64 x, .int .u64 y] w fun e w' => e = .returned (.tuple #[.int .u64 ((x * y / 18446744073709551616 : Nat) : Int), .int .u64 ((x * y % 18446744073709551616 : Nat) : Int)]) ∧ w = w' :=
  (Any.bits_Mul64 Tryd.lays264 x y hx hy w).mono fun _ _ h => ⟨h.1, h.2.symm⟩
theorem size_u64 : (Tryd.prog.info? 32).map (·.size) = some 1 := by kernel_rfl
end Go.Proofs.YtemcankmggmgoaaDoor

/- Sums and differences of words: mont.Int.minus, plus; the reference's less, plus. -/
namespace Go.Proofs.YtemcankmggmgoaaDoor
open Go.RowKit Go.Mv Mvp
attribute [local irreducible] limbs lw mix cw cSub cAdd cMul
set_option maxHeartbeats 2000000 in
set_option maxRecDepth 100000 in
theorem minus_any (a b : Nat) (w : World) (hb : b < B64 ^ 4) :
    Calls Tryd.prog 50 #[i4 a, i4 b] w fun e w' => e = .returned (.tuple #[i4 (a + B64 ^ 4 - b), .int .u64 (cSub a b 4 : Nat)]) ∧ Fr Nob w w' := by
  have HB := Lib.hid hb; clear hb
  have st0 := St.start Nob w
  go_enter Tryd.func50, Tryd.ntmps50
  go_wp2_with (with_reducible refine wl_stop (o := ⟨some 2, _, _, _, _, _⟩) ?_)
  refine wl_boxS st0 rfl rfl rfl (cw 4 a) rfl ?_
  intro g2 w1 st1
  clear st0
  go_wp2_with (with_reducible refine wl_stop (o := ⟨some 3, _, _, _, _, _⟩) ?_)
  refine wl_boxS st1 rfl rfl rfl (cw 4 b) rfl ?_
  intro g3 w2 st2
  clear st1
  go_wp2_with (with_reducible refine wl_stop (o := ⟨some 4, _, _, _, _, _⟩) ?_)
  refine wl_allocS st2 rfl rfl (z := .agg #[.int .u64 0, .int .u64 0, .int .u64 0, .int .u64 0]) (by kernel_rfl) (cw 4 0) (by rw [cw_zero]; rfl) ?_
  intro g4 w3 st3
  clear st2
  go_wp2
  go_loopw [5, 7] (fun c i wr => ∃ k : Nat, k ≤ 4 ∧ i = .int .i64 (k : Int) ∧ c = .int .u64 (cSub a b k : Nat) ∧ St Nob w wr [(g2, cw 4 a, 42), (g3, cw 4 b, 42), (g4, cw 4 (mix (a + B64 ^ 4 - b) 0 k), 42)]) (fun _ i _ => 4 - (intOf i).toNat)
  case atStart => exact ⟨0, by omega, rfl, by rw [cSub_zero]; rfl, by rw [mix_zero]; exact st3⟩
  case round =>
    obtain ⟨k, hk, rfl, rfl, st⟩ := hrel
    clear st3
    by_cases hlt : k < 4
    · have hltI : (k : Int) < 4 := by omega
      have c1 := (st.at 0 rfl).cell (cw_get 4 a k hlt)
      have c2 := (st.at 1 rfl).cell (cw_get 4 b k hlt)
      obtain ⟨v3, c3, f3⟩ := (st.at 2 rfl).ready (i := k) (by rw [cw_len]; exact hlt)
      have e1 := fun wx => sub64_run (lw a k) (lw b k) (cSub a b k) (cSub_le a b k) wx
      go_wp2
      go_region
      all_goals
        go_wp2
        go_roundw
        case rel =>
          have h1 := st.set 2 rfl k (.int .u64 (lw (a + B64 ^ 4 - b) k : Nat))
          rw [cw_set _ _ _ _ hlt, lw_sub 4 a b k HB.out hlt] at h1
          exact ⟨k + 1, by omega, by go_num, by rw [cSub_succ], h1.drew⟩
        case measure => simp [intOf]; omega
    · have hge : ¬ ((k : Int) < 4) := by omega
      have hk4 : k = 4 := by omega
      have HK := Lib.hid hk4; clear hk4
      go_wp2_with (with_reducible refine wl_stop (o := ⟨some 24, _, _, _, _, _⟩) ?_)
      refine wl_loadS st 2 rfl rfl rfl Tryd.underlying42 rfl (by rw [cw_len]; kernel_rfl) ?_
      go_wp2_with (with_reducible refine wl_stop (o := ⟨none, _, _, _, _, _⟩) ?_)
      refine wl_storeS st 2 rfl rfl rfl rfl rfl (by simp only [cw_len]) (by rw [cw_len]; kernel_rfl) (cw_one _ _) ?_
      intro w5 st5
      clear st
      have hd5 := st5.at 2 rfl
      rw [HK.out, mix_top _ _ _ (by first | decide | assumption | exact HA.out), cw_mod] at hd5
      have hf5 := st5.fr
      clear st5
      go_wp2
      exact bodyPost_ret (results_arr2 rfl rfl hd5 Tryd.underlying42 (by rw [cw_len]; kernel_rfl) rfl) rfl ⟨by rw [HK.out]; rfl, hf5⟩

set_option maxHeartbeats 2000000 in
set_option maxRecDepth 100000 in
theorem plus_any (a b : Nat) (w : World) :
    Calls Tryd.prog 79 #[i4 a, i4 b] w fun e w' => e = .returned (.tuple #[i4 (a + b), .int .u64 (cAdd a b 4 : Nat)]) ∧ Fr Nob w w' := by
  have st0 := St.start Nob w
  go_enter Tryd.func79, Tryd.ntmps79
  go_wp2_with (with_reducible refine wl_stop (o := ⟨some 2, _, _, _, _, _⟩) ?_)
  refine wl_boxS st0 rfl rfl rfl (cw 4 a) rfl ?_
  intro g2 w1 st1
  clear st0
  go_wp2_with (with_reducible refine wl_stop (o := ⟨some 3, _, _, _, _, _⟩) ?_)
  refine wl_boxS st1 rfl rfl rfl (cw 4 b) rfl ?_
  intro g3 w2 st2
  clear st1
  go_wp2_with (with_reducible refine wl_stop (o := ⟨some 4, _, _, _, _, _⟩) ?_)
  refine wl_allocS st2 rfl rfl (z := .agg #[.int .u64 0, .int .u64 0, .int .u64 0, .int .u64 0]) (by kernel_rfl) (cw 4 0) (by rw [cw_zero]; rfl) ?_
  intro g4 w3 st3
  clear st2
  go_wp2
  go_loopw [5, 7] (fun c i wr => ∃ k : Nat, k ≤ 4 ∧ i = .int .i64 (k : Int) ∧ c = .int .u64 (cAdd a b k : Nat) ∧ St Nob w wr [(g2, cw 4 a, 42), (g3, cw 4 b, 42), (g4, cw 4 (mix (a + b) 0 k), 42)]) (fun _ i _ => 4 - (intOf i).toNat)
  case atStart => exact ⟨0, by omega, rfl, by rw [cAdd_zero]; rfl, by rw [mix_zero]; exact st3⟩
  case round =>
    obtain ⟨k, hk, rfl, rfl, st⟩ := hrel
    clear st3
    by_cases hlt : k < 4
    · have hltI : (k : Int) < 4 := by omega
      have c1 := (st.at 0 rfl).cell (cw_get 4 a k hlt)
      have c2 := (st.at 1 rfl).cell (cw_get 4 b k hlt)
      obtain ⟨v3, c3, f3⟩ := (st.at 2 rfl).ready (i := k) (by rw [cw_len]; exact hlt)
      have e1 := fun wx => add64_run (lw a k) (lw b k) (cAdd a b k) (cAdd_le a b k) wx
      go_wp2
      go_region
      all_goals
        go_wp2
        go_roundw
        case rel =>
          have h1 := st.set 2 rfl k (.int .u64 (lw (a + b) k : Nat))
          rw [cw_set _ _ _ _ hlt, lw_add a b k] at h1
          exact ⟨k + 1, by omega, by go_num, by rw [cAdd_succ]; go_num, h1.drew⟩
        case measure => simp [intOf]; omega
    · have hge : ¬ ((k : Int) < 4) := by omega
      have hk4 : k = 4 := by omega
      have HK := Lib.hid hk4; clear hk4
      go_wp2_with (with_reducible refine wl_stop (o := ⟨some 24, _, _, _, _, _⟩) ?_)
      refine wl_loadS st 2 rfl rfl rfl Tryd.underlying42 rfl (by rw [cw_len]; kernel_rfl) ?_
      go_wp2_with (with_reducible refine wl_stop (o := ⟨none, _, _, _, _, _⟩) ?_)
      refine wl_storeS st 2 rfl rfl rfl rfl rfl (by simp only [cw_len]) (by rw [cw_len]; kernel_rfl) (cw_one _ _) ?_
      intro w5 st5
      clear st
      have hd5 := st5.at 2 rfl
      rw [HK.out, mix_top _ _ _ (by first | decide | assumption | exact HA.out), cw_mod] at hd5
      have hf5 := st5.fr
      clear st5
      go_wp2
      exact bodyPost_ret (results_arr2 rfl rfl hd5 Tryd.underlying42 (by rw [cw_len]; kernel_rfl) rfl) rfl ⟨by rw [HK.out]; rfl, hf5⟩

end Go.Proofs.YtemcankmggmgoaaDoor

/- mont.line: a word times a number, added to the lowest words. -/
namespace Go.Proofs.YtemcankmggmgoaaDoor
open Go.RowKit Go.Mv Mvp
attribute [local irreducible] limbs lw mix cw cSub cAdd cMul
set_option maxHeartbeats 4000000 in
set_option maxRecDepth 100000 in
theorem line_any (gt V x n top : Nat) (T : TypeId) (w : World) (ht : Has w gt (cw 6 V) T) (hx : x < 18446744073709551616) (_ : top < 18446744073709551616) :
    Calls Tryd.prog 60 #[.pointer (some ⟨gt, 0, none⟩), .int .u64 (x : Int), i4 n, .int .u64 (top : Int)] w fun e w' =>
      e = .returned (.tuple #[.int .u64 (((top + cMul V x n 4) % 18446744073709551616 : Nat) : Int), .int .u64 (((top + cMul V x n 4) / 18446744073709551616 : Nat) : Int)]) ∧
      Has w' gt (cw 6 (mix (V + x * n) V 4)) T ∧ Fr (One gt) w w' := by
  have st0 := St.one ht
  clear ht
  have HX := Lib.hid hx
  go_enter Tryd.func60, Tryd.ntmps60
  go_wp2_with (with_reducible refine wl_stop (o := ⟨some 6, _, _, _, _, _⟩) ?_)
  refine wl_boxS st0 rfl rfl rfl (cw 4 n) rfl ?_
  intro gn w1 st1
  clear st0
  go_wp2_with (with_reducible refine wl_stop (o := ⟨some 16, _, _, _, _, _⟩) ?_)
  refine wl_loadS st1 1 rfl rfl rfl Tryd.underlying42 rfl (by rw [cw_len]; kernel_rfl) ?_
  go_wp2
  go_loopw [10, 17] (fun c i wr => ∃ k : Nat, k ≤ 4 ∧ i = .int .i64 (k : Int) ∧ c = .int .u64 (cMul V x n k : Nat) ∧ St (One gt) w wr [(gt, cw 6 (mix (V + x * n) V k), T)]) (fun _ i _ => 4 - (intOf i).toNat)
  case atStart => exact ⟨0, by omega, rfl, by rw [cMul_zero]; rfl, by rw [mix_zero]; exact st1.less (by simp)⟩
  case round =>
    obtain ⟨k, hk, rfl, rfl, st⟩ := hrel
    clear st1
    have hcm := cMul_lt V x n k HX.out
    by_cases hlt : k < 4
    · have hltI : (k : Int) < 4 := by omega
      have e0 := fun wx => run_index_cw (P := Tryd.prog) Tryd.underlying42 Tryd.underlying32 size_u64 n k hlt .i64 wx
      have hp := word_mul_le HX.out (lw_lt n k)
      have hms := cMul_succ V x n k
      have hlm := lw_madd V x n k
      have hms2 := cMul_lt V x n (k + 1) HX.out
      obtain ⟨hi, lo, lo2, c1, t2, c2, r1, r2, r3, r4, r5, r6, r7, r8, r9⟩ := line_names (x * lw n k) (lw V k) (cMul V x n k) hp hcm
      rw [← r8] at hlm
      rw [← r9] at hms
      rw [hms] at hms2
      have hmul := fun wx => mul64_any x (lw n k) HX.out (lw_lt n k) wx
      rw [r1, r2] at hmul
      have e2 := fun wx => add64_run0 lo (cMul V x n k) lo2 c1 r3 r4 wx
      have e3 := fun wx => add64_run0 (lw V k) lo2 t2 c2 r6 r7 wx
      obtain ⟨v3, c3, f3⟩ := (st.at 0 rfl).ready (i := k) (by rw [cw_len]; omega)
      have c1' : wr.cell? ⟨gt, k, none⟩ = some (.int .u64 (lw V k : Nat)) := by have h := (st.at 0 rfl).cell (cw_get 6 (mix (V + x * n) V k) k (by omega)); rwa [lw_mix, if_neg (Nat.lt_irrefl k)] at h
      clear c3 hp r1 r2 r3 r4 r6 r7 r8 r9
      have HMUL := Lib.hid hmul; clear hmul
      have HMS := Lib.hid hms; clear hms
      have HLM := Lib.hid hlm; clear hlm
      go_wp2_with fail
      refine (HMUL.out _).mono ?_
      rintro e' w' ⟨rfl, rfl⟩
      go_wp2_with fail
      go_region
      all_goals
        go_wp2
        go_roundw
        case rel =>
          have h1 := st.set 0 rfl k (.int .u64 (lw (V + x * n) k : Nat))
          rw [cw_set _ _ _ _ (by omega), HLM.out] at h1
          exact ⟨k + 1, by omega, by go_num, by rw [HMS.out]; go_num, h1.drew⟩
        case measure => simp [intOf]; omega
    · have hge : ¬ ((k : Int) < 4) := by omega
      have hk4 : k = 4 := by omega
      have HK := Lib.hid hk4; clear hk4
      have e2 := fun wx => add64_run0 top (cMul V x n k) _ _ rfl rfl wx
      go_wp2
      go_ret2
      rw [← HK.out]
      exact ⟨rfl, st.at 0 rfl, st.fr⟩
end Go.Proofs.YtemcankmggmgoaaDoor

/- mintvaultref2.product: the product of two numbers of four words. -/
namespace Go.Proofs.YtemcankmggmgoaaDoor
open Go.RowKit Go.Mv Mvp
attribute [local irreducible] limbs lw mix cw cSub cAdd cMul
end Go.Proofs.YtemcankmggmgoaaDoor

/- A region that draws its order, under a condition S on the world that holds till the last operations begin: the head (reads, calls) in an order of the prover's choice, behind it the tail (a store, as a rule) in the text's order. -/
namespace Go.Mv
open Go.RowKit
section
variable {P : Program} {ops : Array Oper} {md : Region.Mode} {Q : Exit → Act → World → Prop} {S : World → Prop}

def wpAnyT (P : Program) (md : Region.Mode) (ops : Array Oper) (Q : Exit → Act → World → Prop) (S : World → Prop) (n g : Nat) (tl : List Oper) : Nat → Array Bool → Act → World → Prop
  | 0, listed, a, w => Region.seqB md ops g n listed = true ∧ wpList P ops Q tl a w
  | f + 1, listed, a, w =>
    Region.ready md ops listed ≠ [] ∧ ∀ i ∈ Region.ready md ops listed, i < n ∧ wpOp P ops Q i (fun a' w' => S w' ∧ wpAnyT P md ops Q S n g tl f (listed.setIfInBounds i true) a' w') a w

theorem wpAny_of_T {n : Nat} {tl : List Oper} (hl : ∀ j, tl[j]? = ops[n + j]?) : ∀ (f : Nat) (listed : Array Bool) (a : Act) (w : World), wpAnyT P md ops Q S n tl.length tl f listed a w → wpAny P md ops Q (f + tl.length) listed a w
  | 0, listed, a, w, h => by rw [Nat.zero_add]; exact wpAny_of_seq tl n listed a w hl h.1 h.2
  | f + 1, listed, a, w, h => by
    rw [show f + 1 + tl.length = (f + tl.length) + 1 by omega]
    exact ⟨fun h0 => absurd h0 h.1, fun i hi => wpOp_mono (fun a' w' h' => wpAny_of_T hl f _ a' w' h'.2) (h.2 i hi).2⟩

theorem wpAnyT_first {n g i : Nat} {oi : Oper} {v : Value} {tl : List Oper} (hi : ops[i]? = some oi) (hsel : ∀ (j : Nat) (o : Oper) cs b, ops[j]? = some o → o.op ≠ .select cs b)
    (hQ : ∀ c a w, Q (.panic c) (a.put oi.dst v) w → Q (.panic c) a w)
    (hs : Region.sinkB md ops n = true) (hc : Region.chainB md ops n = true) (hn : n < ops.size) (hin : i < n) :
    ∀ (f : Nat) (listed : Array Bool) (a : Act) (w : World), HeadInv md ops n listed →
      (∀ j oj, ops[j]? = some oj → j ≠ i → listed.getD j true = false → (∀ e ∈ oj.after, Region.binds md e = true → e.on ≠ i) → oi.apart ops oj = true) →
      i ∈ Region.ready md ops listed → YieldsIf P ops S oi v a → S w →
      wpAnyT P md ops Q S n g tl f (listed.setIfInBounds i true) (a.put oi.dst v) w → wpAnyT P md ops Q S n g tl (f + 1) listed a w := by
  intro f
  induction f with
  | zero =>
    intro listed a w inv _ hr hy hS H
    have hun := (mem_ready.1 hr).1
    refine ⟨fun h => (by rw [h] at hr; cases hr), fun j hj => ?_⟩
    have hjn : j < n := by
      rcases Nat.lt_or_ge j n with h | h
      · exact h
      · exact absurd hj (tail_waits hs hc hn inv _ i rfl hin hun j h)
    refine ⟨hjn, ?_⟩
    by_cases hji : j = i
    · subst hji; exact hy.wpOp hi hS ⟨hS, H⟩
    · have := seqB_ready H.1 j (ready_mono hj hji)
      omega
  | succ f ih =>
    intro listed a w inv hfree hr hy hS H
    have hun := (mem_ready.1 hr).1
    refine ⟨fun h => (by rw [h] at hr; cases hr), fun j hj => ?_⟩
    have hjn : j < n := by
      rcases Nat.lt_or_ge j n with h | h
      · exact h
      · exact absurd hj (tail_waits hs hc hn inv _ i rfl hin hun j h)
    refine ⟨hjn, ?_⟩
    by_cases hji : j = i
    · subst hji; exact hy.wpOp hi hS ⟨hS, H⟩
    · have h1 := (H.2 j (ready_mono hj hji)).2
      obtain ⟨hjun, oj, hoj, hall⟩ := mem_ready.1 hj
      have hnot : ∀ e ∈ oj.after, Region.binds md e = true → e.on ≠ i := fun e he hb heq => by
        have h1 := hall e he hb
        rw [heq, getD_both hun] at h1
        cases h1
      have h2 := wpOp_putIf hoj (hfree j oj hoj hji hjun hnot) (fun cs b => hsel i oi cs b hi) (fun cs b => hsel j oj cs b hoj) hQ hy h1
      have hfree' : ∀ k ok, ops[k]? = some ok → k ≠ i → (listed.setIfInBounds j true).getD k true = false →
          (∀ e ∈ ok.after, Region.binds md e = true → e.on ≠ i) → oi.apart ops ok = true := fun k ok hk hki hun hno => by
        refine hfree k ok hk hki ?_ hno
        by_cases hjk : j = k
        · subst hjk; exact hjun
        · rw [getD_set_ne true hjk] at hun; exact hun
      refine wpOp_mono (fun a' w' h3 => ⟨h3.2.1, ih (listed.setIfInBounds j true) a' w' (inv.set hj hjn) hfree' (ready_mono hr (Ne.symm hji)) h3.1 h3.2.1 ?_⟩) h2
      rw [Array.setIfInBounds_comm _ _ hji]
      exact h3.2.2

/-- the head, in the order s (true: it only yields a value; false: it is carried out), then the tail -/
def wpSeq (P : Program) (ops : Array Oper) (Q : Exit → Act → World → Prop) (S : World → Prop) (tl : List Oper) : List (Nat × Bool) → Act → World → Prop
  | [], a, w => wpList P ops Q tl a w
  | (i, true) :: r, a, w => ∃ o v, ops[i]? = some o ∧ YieldsIf P ops S o v a ∧ wpSeq P ops Q S tl r (a.put o.dst v) w
  | (i, false) :: r, a, w => ∃ o, ops[i]? = some o ∧ o.guard = none ∧ o.wp P a w (fun a' w' => S w' ∧ wpSeq P ops Q S tl r a' w') Q

/-- is the order s one that serves? -/
def seqOk (md : Region.Mode) (ops : Array Oper) (n g : Nat) : List (Nat × Bool) → Array Bool → Bool
  | [], listed => Region.seqB md ops g n listed
  | (i, true) :: r, listed => decide (i < n) && (Region.ready md ops listed).contains i && Region.free md ops listed i && seqOk md ops n g r (listed.setIfInBounds i true)
  | (i, false) :: r, listed => decide (i < n) && decide (Region.ready md ops listed = [i]) && seqOk md ops n g r (listed.setIfInBounds i true)

theorem wpAnyT_of_seq {n g : Nat} {tl : List Oper} (hsel : Region.noSelect ops = true) (hs : Region.sinkB md ops n = true) (hc : Region.chainB md ops n = true) (hn : n < ops.size)
    (hQ : ∀ c (d : Option Tmp) v a w, Q (.panic c) (Act.put a d v) w → Q (.panic c) a w) :
    ∀ (s : List (Nat × Bool)) (listed : Array Bool) (a : Act) (w : World), HeadInv md ops n listed → seqOk md ops n g s listed = true → S w → wpSeq P ops Q S tl s a w → wpAnyT P md ops Q S n g tl s.length listed a w
  | [], listed, a, w, _, hB, _, h => ⟨hB, h⟩
  | (i, true) :: r, listed, a, w, inv, hB, hS, h => by
    obtain ⟨o, v, ho, hy, hK⟩ := h
    simp only [seqOk, Bool.and_eq_true, decide_eq_true_eq] at hB
    obtain ⟨⟨⟨hin, hr⟩, hf⟩, hB'⟩ := hB
    have hr' : i ∈ Region.ready md ops listed := by simpa using hr
    exact wpAnyT_first ho (Region.noSelect_spec hsel) (fun c a w => hQ c o.dst v a w) hs hc hn hin r.length listed a w inv (Region.free_spec ho hf) hr' hy hS
      (wpAnyT_of_seq hsel hs hc hn hQ r _ _ w (inv.set hr' hin) hB' hS hK)
  | (i, false) :: r, listed, a, w, inv, hB, hS, h => by
    obtain ⟨o, ho, hg, hK⟩ := h
    simp only [seqOk, Bool.and_eq_true, decide_eq_true_eq] at hB
    obtain ⟨⟨hin, hr⟩, hB'⟩ := hB
    have hr' : i ∈ Region.ready md ops listed := by rw [hr]; simp
    refine ⟨by rw [hr]; simp, fun j hj => ?_⟩
    rw [hr] at hj
    have hj' : j = i := by simpa using hj
    subst hj'
    refine ⟨hin, ?_⟩
    unfold wpOp
    simp only [ho]
    rw [if_pos (by simp [Region.wanted, hg])]
    exact .inl (Oper.wp_mono (fun a' w' h' => ⟨h'.1, wpAnyT_of_seq hsel hs hc hn hQ r _ a' w' (inv.set hr' hin) hB' h'.1 h'.2⟩) hK)

def tailOk (ops : Array Oper) (n : Nat) (s : List (Nat × Bool)) : Bool :=
  Region.noSelect ops && decide (n < ops.size) && decide (s.length = n) && Region.sinkB .any ops n && Region.chainB .any ops n && seqOk .any ops n (ops.size - n) s (Array.replicate ops.size false)

/-- THE BEGINNING -/
theorem wp_region_seq {id : Nat} {a : Act} {w : World} {l : List Oper} (S : World → Prop) (n : Nat) (s : List (Nat × Bool)) (hm : P.follows .mixedOrders = true) (hB : tailOk l.toArray n s = true)
    (hS : S w.drew) (hQ : ∀ c (d : Option Tmp) v a w, Q (.panic c) (Act.put a d v) w → Q (.panic c) a w)
    (h : wpSeq P l.toArray Q S (l.drop n) s a w.drew) : (Code.region id l.toArray true).wp P Q a w := by
  simp only [tailOk, Bool.and_eq_true, decide_eq_true_eq] at hB
  obtain ⟨⟨⟨⟨⟨hsel, hn⟩, hlen⟩, hs⟩, hc⟩, hseq⟩ := hB
  have inv0 : HeadInv .any l.toArray n (Array.replicate l.toArray.size false) :=
    ⟨by simp, fun j oj _ hl => (by rw [getD_replicate_false] at hl; cases hl), fun t _ ht => getD_in (by simpa using ht) (getD_replicate_false _ _)⟩
  have hdl : (l.drop n).length = l.toArray.size - n := by simp
  rw [← hdl] at hseq
  have H := wpAnyT_of_seq (md := .any) (g := (l.drop n).length) (tl := l.drop n) hsel hs hc hn hQ s _ a w.drew inv0 hseq hS h
  refine wp_region_any hm ?_
  have := wpAny_of_T (md := .any) (n := n) (tl := l.drop n) (fun j => by simp [List.getElem?_drop]) _ _ _ _ H
  rw [hlen, hdl, show n + (l.toArray.size - n) = l.toArray.size by omega] at this
  exact this

/- the steps -/
variable {l tl : List Oper} {i : Nat} {r : List (Nat × Bool)} {a : Act} {w : World} {o : Oper}
theorem seq_end (h : wpList P ops Q tl a w) : wpSeq P ops Q S tl [] a w := h
theorem seq_pure (ho : l[i]? = some o) (hg : o.guard = none) {v : Value} (hv : ∀ wx, S wx → (execOp a.eval o).run P wx = .ok (.value v) wx) (h : wpSeq P l.toArray Q S tl r (a.put o.dst v) w) : wpSeq P l.toArray Q S tl ((i, true) :: r) a w :=
  ⟨o, v, by simpa using ho, .inl ⟨by simp [Region.wanted, hg], hv⟩, h⟩
end

theorem St.rangeL {S : Nat → Prop} {w0 w : World} {bl : List (Nat × List Value × TypeId)} (h : St S w0 w bl) (i : Nat) {g : Nat} {L : List Value} {T : TypeId} (hb : bl[i]? = some (g, L, T)) (o : Nat) (cs : List Value) (hcs : (L.drop o).take cs.length = cs) : w.rangeAt g o cs := (h.at i hb).range o cs hcs
end Go.Mv

/- (mintvaultref2.F).Less: a number of eight words modulo the prime. -/
namespace Go.Proofs.YtemcankmggmgoaaDoor
open Go.RowKit Go.Mv Mvp
attribute [local irreducible] limbs lw mix cw cSub cAdd cMul
end Go.Proofs.YtemcankmggmgoaaDoor

/- The reference's F: Mul, Add, Neg, Sub; N: Zero, Below, Bit, Small. -/
namespace Go.Proofs.YtemcankmggmgoaaDoor
open Go.RowKit Go.Mv Mvp
attribute [local irreducible] limbs lw mix cw cSub cAdd cMul
end Go.Proofs.YtemcankmggmgoaaDoor

/- Plain numbers: bytes, the highest first; bits. -/
namespace Mvp

/-- bytes as a number, the highest first -/
def beN (l : List UInt8) : Nat := l.foldl (fun a x => a * 256 + x.toNat) 0
theorem beN_nil : beN [] = 0 := rfl
theorem beN_snoc (l : List UInt8) (x : UInt8) : beN (l ++ [x]) = beN l * 256 + x.toNat := by simp [beN]
theorem beN_lt (l : List UInt8) : beN l < 256 ^ l.length := by
  have h : ∀ (n : Nat) (l : List UInt8), l.length = n → beN l < 256 ^ n := by
    intro n
    induction n with
    | zero => intro l hl; rw [List.length_eq_zero_iff.1 hl]; decide
    | succ n ih =>
      intro l hl
      obtain ⟨m, x, rfl⟩ : ∃ m x, l = m ++ [x] := by
        rcases List.eq_nil_or_concat l with h | ⟨m, x, h⟩
        · subst h; simp at hl
        · exact ⟨m, x, by simpa using h⟩
      have := ih m (by simpa using hl)
      have hx := x.toNat_lt
      rw [beN_snoc, Nat.pow_succ]
      omega
  exact h _ l rfl
theorem beN_take (l : List UInt8) (i : Nat) (h : i < l.length) : beN (l.take (i + 1)) = beN (l.take i) * 256 + (l.getD i 0).toNat := by
  rw [List.take_succ_eq_append_getElem h, beN_snoc]
  simp [List.getD_eq_getElem?_getD, h]
/-- what has been laid when i bytes are read -/
def laid (l : List UInt8) (i : Nat) : Nat := beN (l.take i) * 256 ^ (l.length - i)
theorem laid_zero (l : List UInt8) : laid l 0 = 0 := by simp [laid, beN]
theorem laid_all (l : List UInt8) : laid l l.length = beN l := by simp [laid]
theorem laid_succ (l : List UInt8) (i : Nat) (h : i < l.length) : laid l (i + 1) = laid l i + (l.getD i 0).toNat * 256 ^ (l.length - 1 - i) := by
  unfold laid
  rw [beN_take l i h, Nat.add_mul, Nat.mul_assoc, show l.length - i = (l.length - 1 - i) + 1 by omega, Nat.pow_succ, Nat.mul_comm 256, show l.length - (i + 1) = l.length - 1 - i by omega]
theorem laid_mod (l : List UInt8) (i : Nat) (h : i < l.length) : laid l i % 256 ^ (l.length - 1 - i + 1) = 0 := by
  unfold laid
  rw [show l.length - 1 - i + 1 = l.length - i by omega, Nat.mul_mod_left]
theorem pow256 (k : Nat) : 256 ^ k = B64 ^ (k / 8) * 2 ^ (8 * (k % 8)) := by
  have e1 : (256 : Nat) = 2 ^ 8 := by decide
  have e2 : B64 = 2 ^ 64 := by decide
  rw [e1, e2, ← Nat.pow_mul, ← Nat.pow_mul, ← Nat.pow_add]
  congr 1
  omega
theorem byte_shift_lt (x r : Nat) (hx : x < 256) : x * 2 ^ r < 2 ^ (r + 8) := by
  rw [Nat.pow_add, Nat.mul_comm (2 ^ r)]
  exact Nat.mul_lt_mul_of_pos_right hx (Nat.two_pow_pos r)
theorem word_or (A y r : Nat) (hr : r + 8 ≤ 64) (hy : y < 2 ^ (r + 8)) (hA : A % 2 ^ (r + 8) = 0) : (A % B64) ||| y = (A + y) % B64 ∧ (A + y) / B64 = A / B64 := by
  obtain ⟨c, hc⟩ : ∃ c, B64 = 2 ^ (r + 8) * c := ⟨2 ^ (64 - (r + 8)), by rw [← Nat.pow_add, show r + 8 + (64 - (r + 8)) = 64 by omega]⟩
  obtain ⟨m, rfl⟩ : ∃ m, A = 2 ^ (r + 8) * m := ⟨A / 2 ^ (r + 8), by have := Nat.div_add_mod A (2 ^ (r + 8)); omega⟩
  have hc0 : 0 < c := by
    rcases Nat.eq_zero_or_pos c with h | h
    · rw [h, Nat.mul_zero] at hc; exact absurd hc (by decide)
    · exact h
  have hp := Nat.two_pow_pos (r + 8)
  rw [hc]
  have e1 : 2 ^ (r + 8) * m % (2 ^ (r + 8) * c) = 2 ^ (r + 8) * (m % c) := Nat.mul_mod_mul_left _ _ _
  have hmc := Nat.mod_lt m hc0
  have e3 : 2 ^ (r + 8) * m + y = (2 ^ (r + 8) * c) * (m / c) + (2 ^ (r + 8) * (m % c) + y) := by
    have := Nat.div_add_mod m c
    have h2 : 2 ^ (r + 8) * m = 2 ^ (r + 8) * (c * (m / c) + m % c) := by rw [this]
    rw [h2, Nat.mul_add, Nat.mul_assoc]; omega
  have hlt : 2 ^ (r + 8) * (m % c) + y < 2 ^ (r + 8) * c := by
    have h1 : 2 ^ (r + 8) * (m % c + 1) ≤ 2 ^ (r + 8) * c := Nat.mul_le_mul_left _ hmc
    rw [Nat.mul_add, Nat.mul_one] at h1
    omega
  constructor
  · rw [e1, ← Nat.two_pow_add_eq_or_of_lt hy, e3, Nat.mul_add_mod, Nat.mod_eq_of_lt hlt]
  · rw [e3, Nat.mul_add_div (Nat.mul_pos hp hc0), Nat.div_eq_of_lt hlt, Nat.add_zero, Nat.mul_div_mul_left _ _ hp]
/-- a byte is laid -/
theorem of_step (n N k x : Nat) (hx : x < 256) (hN : N % 256 ^ (k + 1) = 0) (hk : k / 8 < n) : (limbs n N).set (k / 8) (lw N (k / 8) ||| x * 2 ^ (8 * (k % 8))) = limbs n (N + x * 256 ^ k) := by
  have hA : N / B64 ^ (k / 8) % 2 ^ (8 * (k % 8) + 8) = 0 := by
    have e : 256 ^ (k + 1) = B64 ^ (k / 8) * 2 ^ (8 * (k % 8) + 8) := by rw [Nat.pow_succ, pow256, Nat.mul_assoc, Nat.pow_add]
    rw [e] at hN
    rw [← Nat.mod_mul_right_div_self, hN, Nat.zero_div]
  obtain ⟨h1, h2⟩ := word_or (N / B64 ^ (k / 8)) (x * 2 ^ (8 * (k % 8))) (8 * (k % 8)) (by omega) (byte_shift_lt x _ hx) hA
  have e : N + x * 256 ^ k = N + B64 ^ (k / 8) * (x * 2 ^ (8 * (k % 8))) := by rw [pow256, Nat.mul_left_comm]
  rw [e]
  apply List.ext_getElem?
  intro i
  rw [List.getElem?_set, limbs_length]
  rcases Nat.lt_or_ge i n with hi | hi
  · rw [limbs_get _ _ _ hi, limbs_get _ _ _ hi]
    rcases Nat.lt_trichotomy i (k / 8) with h | h | h
    · rw [if_neg (by omega), lw_shift_lo _ _ _ _ h]
    · subst h
      rw [if_pos rfl, if_pos hi]
      congr 1
      have := lw_shift_hi N (x * 2 ^ (8 * (k % 8))) (k / 8) 0
      rw [Nat.add_zero] at this
      rw [this]
      simp only [lw, Nat.pow_zero, Nat.div_one]
      exact h1
    · rw [if_neg (by omega)]
      congr 1
      obtain ⟨j, rfl⟩ : ∃ j, i = k / 8 + (1 + j) := ⟨i - k / 8 - 1, by omega⟩
      rw [lw_shift_hi, ← lw_div N, ← lw_div _ 1 j, ← lw_div _ 1 j, Nat.pow_one, h2]
  · rw [if_neg (by omega), List.getElem?_eq_none (by rw [limbs_length]; exact hi), List.getElem?_eq_none (by rw [limbs_length]; exact hi)]

/-- a number as 32 bytes, the highest first -/
def be32 (N : Nat) : List UInt8 := (List.range 32).map fun i => UInt8.ofNat (N / 256 ^ (31 - i))
theorem be32_len (N : Nat) : (be32 N).length = 32 := by simp [be32]
theorem be32_get (N i : Nat) (h : i < 32) : (be32 N).getD i 0 = UInt8.ofNat (N / 256 ^ (31 - i)) := by simp [be32, List.getD_eq_getElem?_getD, h]
theorem byte_of (N k : Nat) : lw N (k / 8) / 2 ^ (8 * (k % 8)) % 256 = N / 256 ^ k % 256 := by
  unfold lw
  rw [pow256, ← Nat.div_div_eq_div_mul]
  generalize N / B64 ^ (k / 8) = A
  have hr : 8 * (k % 8) + 8 ≤ 64 := by omega
  generalize 8 * (k % 8) = r at *
  have e : B64 = 2 ^ r * 2 ^ (64 - r) := by rw [← Nat.pow_add, show r + (64 - r) = 64 by omega]
  rw [e, Nat.mod_mul_right_div_self]
  exact Nat.mod_mod_of_dvd _ ⟨2 ^ (64 - r - 8), by rw [show (256 : Nat) = 2 ^ 8 from rfl, ← Nat.pow_add, show 8 + (64 - r - 8) = 64 - r by omega]⟩
theorem bit_of (N i : Nat) : lw N (i / 64) / 2 ^ (i % 64) % 2 = N / 2 ^ i % 2 := by
  unfold lw
  have e1 : 2 ^ i = B64 ^ (i / 64) * 2 ^ (i % 64) := by
    rw [show B64 = 2 ^ 64 from rfl, ← Nat.pow_mul, ← Nat.pow_add]
    congr 1; omega
  rw [e1, ← Nat.div_div_eq_div_mul]
  generalize N / B64 ^ (i / 64) = A
  have hr : i % 64 + 1 ≤ 64 := by omega
  generalize i % 64 = r at *
  have e : B64 = 2 ^ r * 2 ^ (64 - r) := by rw [← Nat.pow_add, show r + (64 - r) = 64 by omega]
  rw [e, Nat.mod_mul_right_div_self]
  exact Nat.mod_mod_of_dvd _ ⟨2 ^ (64 - r - 1), by rw [show (2 : Nat) ^ (64 - r) = 2 ^ (1 + (64 - r - 1)) by congr 1; omega, Nat.pow_add, Nat.pow_one]⟩
theorem beN_be32 (N : Nat) (h : N < 256 ^ 32) : beN (be32 N) = N := by
  have key : ∀ n, n ≤ 32 → beN ((be32 N).take n) = N / 256 ^ (32 - n) := by
    intro n
    induction n with
    | zero => intro _; simp only [List.take_zero, beN_nil, Nat.sub_zero]; exact (Nat.div_eq_of_lt h).symm
    | succ n ih =>
      intro hn
      rw [beN_take _ _ (by rw [be32_len]; omega), ih (by omega), be32_get _ _ (by omega), show 32 - (n + 1) = 31 - n by omega, show 32 - n = (31 - n) + 1 by omega, Nat.pow_succ, ← Nat.div_div_eq_div_mul]
      simp only [UInt8.toNat_ofNat']
      have := Nat.div_add_mod (N / 256 ^ (31 - n)) 256
      show _ * 256 + N / 256 ^ (31 - n) % 256 = _
      omega
  have := key 32 (Nat.le_refl _)
  rw [List.take_of_length_le (by rw [be32_len]; exact Nat.le_refl _)] at this
  simpa using this
theorem powm_half (n i : Nat) : n / 2 ^ i = 2 * (n / 2 ^ (i + 1)) + n / 2 ^ i % 2 := by
  rw [Nat.pow_succ, ← Nat.div_div_eq_div_mul]
  have := Nat.div_add_mod (n / 2 ^ i) 2
  omega
theorem beN_le32 (l : List UInt8) (h : l.length ≤ 32) : beN l < B64 ^ 4 :=
  Nat.lt_of_lt_of_le (beN_lt l) (Nat.le_trans (Nat.pow_le_pow_right (by decide) h) (by decide))
theorem beN_append (a b : List UInt8) : beN (a ++ b) = beN a * 256 ^ b.length + beN b := by
  have key : ∀ (n : Nat) (b : List UInt8), b.length = n → beN (a ++ b) = beN a * 256 ^ n + beN b := by
    intro n
    induction n with
    | zero => intro b hb; rw [List.length_eq_zero_iff.1 hb]; simp [beN_nil]
    | succ n ih =>
      intro b hb
      obtain ⟨m, x, rfl⟩ : ∃ m x, b = m ++ [x] := by
        rcases List.eq_nil_or_concat b with h | ⟨m, x, h⟩
        · subst h; simp at hb
        · exact ⟨m, x, by simpa using h⟩
      rw [← List.append_assoc, beN_snoc, ih m (by simpa using hb), beN_snoc, Nat.pow_succ, Nat.add_mul, ← Nat.mul_assoc, Nat.add_assoc]
  exact key _ b rfl
theorem beN_take_add (l : List UInt8) (r k : Nat) (h : r + k ≤ l.length) : beN (l.take (r + k)) = beN (l.take r) * 256 ^ k + beN ((l.drop r).take k) := by
  rw [List.take_add, beN_append]
  congr 3
  simp; omega
end Mvp

/- Bytes and bits of numbers: the reference's Of, Bytes, Bit; mont's FromBytes, Bytes, Bit. -/
namespace Go.Proofs.YtemcankmggmgoaaDoor
open Go.RowKit Go.Mv Mvp
attribute [local irreducible] limbs lw mix cw cSub cAdd cMul beN laid be32
theorem wid_shl (x : UInt8) (r : Nat) (hr : r + 8 ≤ 64) : (shl (wid x) r).toNat = x.toNat * 2 ^ r := by
  have hx := x.toNat_lt
  have h1 : x.toNat * 2 ^ r < 2 ^ (r + 8) := byte_shift_lt x.toNat r hx
  have h2 : 2 ^ (r + 8) ≤ 2 ^ 64 := Nat.pow_le_pow_right (by omega) hr
  simp only [shl, wid, UInt64.toNat_ofNat', UInt8.toNat_toUInt64]
  exact Nat.mod_eq_of_lt (Nat.lt_of_lt_of_le h1 h2)

theorem size_mi : (Tryd.prog.info? 42).map (·.size) = some 4 := by kernel_rfl
set_option maxHeartbeats 2000000 in
set_option maxRecDepth 100000 in
theorem FromBytes_any (a : Option Addr) (n c : Nat) (l : List UInt8) (w : World) (hb : RdB w a n l) (hs : n ≤ 32) :
    Calls Tryd.prog 27 #[.slice a n c] w fun e w' => e = .returned (i4 (beN l)) ∧ Fr Nob w w' := by
  have HS := Lib.hid hs
  have hsz : l.length = n := hb.len
  have HBB := Lib.hid hb; clear hb
  have HSZ := Lib.hid hsz
  clear hs hsz
  have st0 := St.start Nob w
  go_enter Tryd.func27, Tryd.ntmps27
  go_wp2_with (with_reducible refine wl_stop (o := ⟨some 2, _, _, _, _, _⟩) ?_)
  refine wl_allocS st0 rfl rfl (z := .agg #[.int .u64 0, .int .u64 0, .int .u64 0, .int .u64 0]) (by kernel_rfl) (cw 4 0) (by rw [cw_zero]; rfl) ?_
  intro g2 w1 st1
  clear st0
  have hmx : n ≤ 32 := HS.out
  go_wp2
  go_loopw [8] (fun i wr => ∃ k : Nat, k ≤ n ∧ i = .int .i64 (k : Int) ∧ St Nob w wr [(g2, cw 4 (laid l k), 42)]) (fun i _ => n - (intOf i).toNat)
  case atStart => exact ⟨0, by omega, rfl, by rw [laid_zero]; exact st1⟩
  case round =>
    obtain ⟨i, hi, rfl, st⟩ := hrel
    clear st1
    by_cases hlt : i < n
    · have hltI : (i : Int) < (n : Int) := by omega
      have hll : i < l.length := by rw [HSZ.out]; exact hlt
      have hstep := of_step 4 (laid l i) (n - 1 - i) (l.getD i 0).toNat (UInt8.toNat_lt _) (by have := laid_mod l i hll; rwa [HSZ.out] at this) (by omega)
      have hsucc := laid_succ l i hll
      rw [HSZ.out] at hsucc
      rw [← hsucc] at hstep
      obtain ⟨gb, ob, rfl, hcx⟩ := (HBB.out.still st.fr).at (by omega)
      have hx := hcx i hlt
      clear hcx
      have hd1 : (n : Int) - 1 - (i : Int) = ((n - 1 - i : Nat) : Int) := by omega
      generalize hN' : laid l (i + 1) = N' at *
      have HN' := Lib.hid hN'; clear hN'
      generalize hN : laid l i = N at *
      generalize l.getD i 0 = x at *
      have hk32 : n - 1 - i < 32 := by omega
      generalize hk : n - 1 - i = k at *
      have HN := Lib.hid hN; clear hN
      have HK := Lib.hid hk; clear hk
      have HSTEP := Lib.hid hstep; clear hstep
      have HD := Lib.hid hd1; clear hd1 hsucc hll
      have c1 := (st.at 0 rfl).cell (cw_get 4 N (k / 8) (by omega))
      have f1 := (st.at 0 rfl).free (k / 8) (by rw [cw_len]; omega)
      have hlo : (0 : Int) ≤ (k : Int) / 8 ∧ (k : Int) / 8 < 4 := by omega
      have hor := bits_or_u64_nat (lw N (k / 8)) ((shl (wid x) (8 * (k % 8))).toNat) (lw_lt _ _) (u64_lt _)
      rw [wid_shl x (8 * (k % 8)) (by omega)] at hor
      simp only [Int.natCast_mul, Int.natCast_pow, Int.cast_ofNat_Int] at hor
      have HSH := Lib.hid (wid_shl x (8 * (k % 8)) (by omega))
      go_wp2_with fail
      rw [HD.out]
      have e1 : IntKind.i64.wrap ((k : Int) / 8) = (k : Int) / 8 := IntWalk.i64_in _ (by omega)
      have e2 : (k : Int).tmod 8 = (k : Int) % 8 := Int.tmod_eq_emod_of_nonneg (by omega)
      have e3 : IntKind.i64.wrap (8 * ((k : Int) % 8)) = 8 * ((k : Int) % 8) := IntWalk.i64_in _ (by omega)
      have e4 : ((k : Int) / 8).toNat = k / 8 := by omega
      refine wp_region_still_tail 12 (by kernel_rfl) (by kernel_rfl) ?_
      simp only [List.take_succ_cons, List.take_zero, List.drop_succ_cons, List.drop_zero]
      repeat still_step
      refine wpStill_nil ?_
      have hsh := HSH.out
      have hst := (st.set 0 rfl (k / 8) (.int .u64 ((lw N (k / 8) ||| x.toNat * 2 ^ (8 * (k % 8)) : Nat) : Int))).drew
      have hS : (cw 4 N).set (k / 8) (.int .u64 ((lw N (k / 8) ||| x.toNat * 2 ^ (8 * (k % 8)) : Nat) : Int)) = cw 4 N' := by
        rw [cw, us_set, HSTEP.out, cw]
      rw [hS] at hst
      have HST := Lib.hid hst
      clear hst hS
      go_wp2
      go_roundw
      case rel => exact ⟨i + 1, by omega, by go_num, by rw [HN'.out]; exact HST.out⟩
      case measure => simp [intOf]; omega
    · have hge : ¬ ((i : Int) < (n : Int)) := by omega
      have hi2 : i = l.length := by rw [HSZ.out]; omega
      rw [hi2, laid_all] at st
      clear hi2
      go_wp2_with (with_reducible refine wl_stop (o := ⟨some 31, _, _, _, _, _⟩) ?_)
      refine wl_loadS st 0 rfl rfl rfl Tryd.underlying42 rfl (by rw [cw_len]; exact size_mi) ?_
      go_wp2_with (with_reducible refine wl_stop (o := ⟨none, _, _, _, _, _⟩) ?_)
      refine wl_storeS st 0 rfl rfl rfl rfl rfl (by rw [cw_len]) (by rw [cw_len]; exact size_mi) (cw_one _ _) ?_
      intro w9 st9
      clear st
      have hr := st9.at 0 rfl
      have hfr := st9.fr
      clear st9
      go_wp2
      exact bodyPost_ret (results_arr rfl rfl hr Tryd.underlying42 (by rw [cw_len]; exact size_mi)) rfl ⟨rfl, hfr⟩
end Go.Proofs.YtemcankmggmgoaaDoor

/- mintvaultref1.Lent: the bytes of a text, at the front of a longer list. -/
namespace Go.Proofs.YtemcankmggmgoaaDoor
open Go.RowKit Go.Mv Mvp

theorem info_u8 : (Tryd.prog.info? 5).map (fun i => (i.zero, i.size, i.bytes)) = some (some (.int .u8 0), 1, 1) := by kernel_rfl
theorem size_u8 : (Tryd.prog.info? 5).map (·.size) = some 1 := by kernel_rfl

end Go.Proofs.YtemcankmggmgoaaDoor

/- mont's and the reference's Bytes; Bit. -/
namespace Go.Proofs.YtemcankmggmgoaaDoor
open Go.RowKit Go.Mv Mvp
theorem ret_intN {k : IntKind} {a b : Int} (h : a = b) : Ending.returned (.int k a) = .returned (.int k b) := by rw [h]
attribute [local irreducible] limbs lw mix cw cSub cAdd cMul beN laid be32
set_option maxHeartbeats 2000000 in
set_option maxRecDepth 100000 in
theorem MBytes_any (N : Nat) (w : World) :
    Calls Tryd.prog 41 #[i4 N] w fun e w' => ∃ v, e = .returned v ∧ Own w' w.heap.size 5 1 v 32 (bs (be32 N)) ∧ Fr Nob w w' := by
  have st0 := St.start Nob w
  go_enter Tryd.func41, Tryd.ntmps41
  go_wp2_with (with_reducible refine wl_stop (o := ⟨some 1, _, _, _, _, _⟩) ?_)
  refine wl_boxS st0 rfl rfl rfl (cw 4 N) rfl ?_
  intro g1 w1 st1
  clear st0
  go_wp2_with (with_reducible refine wl_stop (o := ⟨some 6, _, _, _, _, _⟩) ?_)
  refine wl_make rfl rfl Tryd.underlying23 info_u8 rfl rfl rfl 32 32 (by simp) (by simp) (by omega) (by omega) (by unfold maxLen; omega) ?_
  intro w2 hg2 hf2 hz2
  clear hz2
  have hb2 : w.heap.size ≤ w1.heap.size := st1.fr.size
  have st2 := st1.new hf2 hg2 (Nat.le_refl _)
  clear st1 hg2 hf2
  generalize w1.heap.size = gb at *
  have HBB := Lib.hid hb2; clear hb2
  go_wp2
  go_loopw [9] (fun i wr => ∃ k : Nat, k ≤ 32 ∧ i = .int .i64 (k : Int) ∧ St Nob w wr [(g1, cw 4 N, 42), (gb, bs (fill (be32 N) (List.replicate 32 0) k), 5)]) (fun i _ => 32 - (intOf i).toNat)
  case atStart => exact ⟨0, by omega, rfl, st2⟩
  case round =>
    obtain ⟨i, hi, rfl, st⟩ := hrel
    clear st2
    by_cases hlt : i < 32
    · have hltI : (i : Int) < 32 := by omega
      have hd1 : (31 : Int) - (i : Int) = ((31 - i : Nat) : Int) := by omega
      have hgl := be32_get N i hlt
      have hgb := byte_of N (31 - i)
      have hk32 : 31 - i < 32 := by omega
      generalize hk : 31 - i = k at *
      have HK := Lib.hid hk; clear hk
      have HGL := Lib.hid hgl; clear hgl
      have HGB := Lib.hid hgb; clear hgb
      have c1 := (st.at 0 rfl).cell (cw_get 4 N (k / 8) (by omega))
      obtain ⟨v3, c3, f3⟩ := (st.at 1 rfl).ready (i := i) (by rw [length_bs, fill_length _ _ _ (by rw [be32_len]; simp)]; simpa using hlt)
      have hlo : (0 : Int) ≤ (k : Int) / 8 ∧ (k : Int) / 8 < 4 := by omega
      have e4 : ((k : Int) / 8).toNat = k / 8 := by omega
      go_wp2
      go_roundw
      case rel =>
        have h1 := st.set 1 rfl i (.int .u8 (((be32 N).getD i 0).toNat : Int))
        rw [bs_set, fill_set _ _ _ (by rw [be32_len]; simp) (by rw [be32_len]; omega)] at h1
        have e : (((be32 N).getD i 0).toNat : Int) = (lw N (k / 8) : Int) / 2 ^ (8 * (k % 8)) % 256 := by
          rw [HGL.out, UInt8.toNat_ofNat']
          have := HGB.out
          rw [show (2 : Nat) ^ 8 = 256 from rfl, ← this]
          simp
        rw [e] at h1
        exact ⟨i + 1, by omega, by go_num, h1⟩
      case measure => simp [intOf]; omega
    · have hge : ¬ ((i : Int) < 32) := by omega
      have hi32 : i = 32 := by omega
      have hown : Own wr w.heap.size 5 1 (.slice (some ⟨gb, 0, none⟩) 32 32) 32 (bs (be32 N)) := by
        have h := st.at 1 rfl
        rw [hi32, fill_all _ _ _ (by rw [be32_len]; simp) (by rw [be32_len]; exact Nat.le_refl _)] at h
        have := Own.made h w.heap.size HBB.out 1 32 32 (Nat.le_refl _) (by unfold maxLen; omega) (by rw [length_bs, be32_len]; omega)
        rwa [List.take_of_length_le (by rw [length_bs, be32_len]; exact Nat.le_refl _)] at this
      have hfr := st.fr
      clear st hi32
      go_wp2
      go_ret
      exact ⟨_, rfl, hown, hfr⟩
set_option maxHeartbeats 2000000 in
set_option maxRecDepth 100000 in
theorem MBit_any (N i : Nat) (w : World) (hi : i < 256) :
    Calls Tryd.prog 72 #[i4 N, .int .i64 (i : Int)] w fun e w' => e = .returned (.int .u64 ((N / 2 ^ i % 2 : Nat) : Int)) ∧ Fr Nob w w' := by
  have hb := bit_of N i
  have HB := Lib.hid hb; clear hb
  have st0 := St.start Nob w
  go_enter Tryd.func72, Tryd.ntmps72
  go_wp2_with (with_reducible refine wl_stop (o := ⟨some 2, _, _, _, _, _⟩) ?_)
  refine wl_boxS st0 rfl rfl rfl (cw 4 N) rfl ?_
  intro g1 w1 st1
  clear st0
  have c1 := (st1.at 0 rfl).cell (cw_get 4 N (i / 64) (by omega))
  have hlo : (0 : Int) ≤ (i : Int) / 64 ∧ (i : Int) / 64 < 4 := by omega
  have hlo2 : (0 : Int) ≤ (i : Int) % 64 ∧ (i : Int) % 64 < 64 := by omega
  have e4 : ((i : Int) / 64).toNat = i / 64 := by omega
  have e5 : ((i : Int) % 64).toNat = i % 64 := by omega
  have hfr := st1.fr
  clear st1
  have hw : lw N (i / 64) / 2 ^ (i % 64) < 18446744073709551616 := Nat.lt_of_le_of_lt (Nat.div_le_self _ _) (lw_lt _ _)
  have ha := bits_and_u64_nat (lw N (i / 64) / 2 ^ (i % 64)) 1 hw (by omega)
  rw [Nat.and_one_is_mod] at ha
  simp only [Int.natCast_ediv, Int.natCast_pow, Int.cast_ofNat_Int] at ha
  go_wp2
  go_ret
  refine ⟨ret_intN ?_, hfr⟩
  rw [← HB.out]
  simp
end Go.Proofs.YtemcankmggmgoaaDoor

/- The reference's Pow, Inv, Number, Mod. -/
namespace Go.Proofs.YtemcankmggmgoaaDoor
open Go.RowKit Go.Mv Mvp
attribute [local irreducible] limbs lw mix cw cSub cAdd cMul beN laid be32
end Go.Proofs.YtemcankmggmgoaaDoor

/- The reference's Number, Mod, Make. -/
namespace Go.Proofs.YtemcankmggmgoaaDoor
open Go.RowKit Go.Mv Mvp
attribute [local irreducible] limbs lw mix cw cSub cAdd cMul beN laid be32
end Go.Proofs.YtemcankmggmgoaaDoor

/- Plain: the two primes. -/
namespace Mvp
/-- 2^256 less the primes -/
def cP : Nat := 4294968273
def cQ : Nat := 4624529908474429119 + 4994812053365940164 * B64 + B64 ^ 2
def pP : Nat := B64 ^ 4 - cP
def pQ : Nat := B64 ^ 4 - cQ
end Mvp

/- Literals of n one-cell elements; loads and stores of structs by value. -/
namespace Go.Mv
open Go.RowKit
variable {P : Program}
/-- n cells in a row -/
theorem wl_slit {w : World} {ops : Array Oper} {rest : List Oper} {o : Oper} {a : Act} {Q : Exit → Act → World → Prop} {t e : TypeId} {k : Nat} {parts : Array (Nat × Operand)} (hgd : o.guard = none) (ho : o.op = .buildSlice t k parts)
    (hu : P.underlying t = some (.slice e)) {z : Value} {by_ : Nat} (hi0 : (P.info? e).map (fun i => (i.zero, i.size, i.bytes)) = some (some z, 1, by_)) (vs : List Value) (hp : (parts.toList.map fun p => (p.1, a.eval p.2)) = (vs.zipIdx 0).map fun x => (x.2, x.1))
    (hv : ∀ v ∈ vs, v.cells = #[v]) (hk : vs.length = k) (hz : z.cells.size = 1)
    (h : ∀ w', Has w' w.heap.size vs e → Fr Nob w w' → w'.heap.size = w.heap.size + 1 → wpList P ops Q rest (a.put o.dst (.slice (some ⟨w.heap.size, 0, none⟩) k k)) w') (hk0 : 0 < k := by decide) (hk24 : k ≤ 16777216 := by decide) : wpList P ops Q (o :: rest) a w := by
  have _hz := hz
  obtain ⟨i, hi, hz0⟩ : ∃ i, P.info? e = some i ∧ (i.zero, i.size, i.bytes) = (some z, 1, by_) := by simpa using hi0
  simp only [Prod.mk.injEq] at hz0
  obtain ⟨hz1, hsz, hby⟩ := hz0
  have hf : Instr.fill (fun j => some (j * i.size, i.size)) ((Array.range (k * i.size)).map (z.cells[· % z.cells.size]!)) (parts.map fun (i, x) => (i, a.eval x)).toList = some vs.toArray := by
    rw [show (parts.map fun (i, x) => (i, a.eval x)).toList = (parts.toList.map fun p => (p.1, a.eval p.2)) by simp, hp, hsz]
    exact Great.fill_flat vs _ hv (by simp [hk])
  exact wpList_buildSlice hgd t e k _ ho _ i _ hu hi hz1 (by rw [hsz]; omega) (by rw [hsz]; omega) hf (h _ (Has.new w vs.toArray e) ((Fr.refl _ w).alloc _) (by simp))

theorem wl_buildL {w : World} {ops : Array Oper} {rest : List Oper} {o : Oper} {a : Act} {Q : Exit → Act → World → Prop} {t : TypeId} {parts : Array (Nat × Operand)} (hgd : o.guard = none) (ho : o.op = .build t parts) (cells : Array Value)
    (hb : P.built t (parts.toList.map fun p => (p.1, a.eval p.2)) = some cells) (h : wpList P ops Q rest (a.put o.dst (.agg cells)) w) : wpList P ops Q (o :: rest) a w :=
  wl_build hgd ho cells (by rw [show (parts.map fun (i, x) => (i, a.eval x)).toList = (parts.toList.map fun p => (p.1, a.eval p.2)) by simp]; exact hb) h
/-- a whole row (array or struct) is read, out of cells -/
theorem wl_loadR {w : World} {ops : Array Oper} {rest : List Oper} {o : Oper} {a : Act} {Q : Exit → Act → World → Prop} {ty : TypeId} {x : Operand} (hgd : o.guard = none) (ho : o.op = .load ty x) {d : TypeDesc} (hu : P.underlying ty = some d) (hd : d.isRow = true) {g p : Nat} (hx : a.eval x = .pointer (some ⟨g, p, none⟩))
    {cs : List Value} (hg : At w g p cs) (hi : (P.info? ty).map (·.size) = some cs.length)
    (h : wpList P ops Q rest (a.put o.dst (.agg cs.toArray)) w) : wpList P ops Q (o :: rest) a w :=
  wpList_load_mid hgd ty x ho g p hx cs d (fun j v hv => hg j v hv) hu hd hi h
end Go.Mv

/- The reference's Make. -/
namespace Go.Proofs.YtemcankmggmgoaaDoor
open Go.RowKit Go.Mv Mvp
attribute [local irreducible] limbs lw mix cSub cAdd cMul beN laid be32
theorem results_st {P : Program} {fn : Func} {p : Tmp} {ty : TypeId} (h : fn.results = #[.cell p ty]) {tmps : Array Value} {w : World} {g : Nat} {L : List Value} {T : TypeId}
    (hp : tmps.getD p undef = .pointer (some ⟨g, 0, none⟩)) (hg : Has w g L T) {d : TypeDesc} (hu : P.underlying ty = some d) (hd : (match d with | .struct _ | .array _ _ => true | _ => false) = true) (hi : (P.info? ty).map (·.size) = some L.length) :
    (results fn tmps).run P w = .ok (.agg L.toArray) w := by
  obtain ⟨lo, hi', hh, -⟩ := hg
  exact results_cell_row h tmps w g T L.toArray _ _ hp hh hu hd (by simpa using hi)
attribute [local irreducible] cw
end Go.Proofs.YtemcankmggmgoaaDoor
