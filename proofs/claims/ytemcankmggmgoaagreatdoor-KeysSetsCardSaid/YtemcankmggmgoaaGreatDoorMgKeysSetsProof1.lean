/- ; ; ; ; ; ; ; ; ; ; ; ; ; ; . -/
import Derived.WalkKit
import Derived.WalkLawsBesides
import Derived.WalkSpells
import Derived.Lib.Hide
import Derived.Laws.CopyOwn
import Derived.Deep.QuietTactic
import Derived.BigQuiet
import Derived.StillTailTactics
import Derived.Deep.RegionHeld3
import Derived.Deep.RegionWith
import Derived.Deep.DeepFit
import Derived.Deep.MidRow
import Derived.Laws.Tables
import Derived.Great.BuildSlice
import Derived.Shelf.Spec.BitsCarry
import Derived.Shelf.Bits.Mul64
import Derived.Test.YtemcankmggmgoaaGreatDoorProg
import Derived.RegionTactic
import Derived.OrdersHeld
import Derived.StillTail
set_option maxHeartbeats 16000000
set_option maxRecDepth 1000000

namespace Go.Mv
open Go.RowKit
structure Fr (S : Nat → Prop) (w w' : World) : Prop where
 os : w'.os = w.os
 tape : w'.tape = w.tape
 output : w'.output = w.output
 size : w.heap.size ≤ w'.heap.size
 block : ∀ k, k < w.heap.size → ¬ S k → w'.heap[k]? = w.heap[k]?
def Nob : Nat → Prop := fun _ => False
def One (g : Nat) : Nat → Prop := fun k => k = g
theorem Fr.refl (S : Nat → Prop) (w : World) : Fr S w w := ⟨rfl, rfl, rfl, Nat.le_refl _, fun _ _ _ => rfl⟩
theorem Fr.trans {S T : Nat → Prop} {a b c : World} (h : Fr S a b) (k : Fr T b c) (hT : ∀ i, i < a.heap.size → T i → S i) : Fr S a c :=
 ⟨k.os.trans h.os, k.tape.trans h.tape, k.output.trans h.output, Nat.le_trans h.size k.size,
  fun i hi hs => (k.block i (Nat.lt_of_lt_of_le hi h.size) (fun t => hs (hT i hi t))).trans (h.block i hi hs)⟩
theorem Fr.mono {S T : Nat → Prop} {a b : World} (h : Fr S a b) (hT : ∀ i, i < a.heap.size → S i → T i) : Fr T a b :=
 ⟨h.os, h.tape, h.output, h.size, fun i hi hs => h.block i hi (fun t => hs (hT i hi t))⟩
theorem Fr.then {a b c : World} (h : Fr Nob a b) (k : Fr Nob b c) : Fr Nob a c := h.trans k (fun _ _ t => t)
theorem Fr.new {S : Nat → Prop} {g : Nat} {a b c : World} (h : Fr S a b) (k : Fr (One g) b c) (hg : a.heap.size ≤ g) : Fr S a c :=
 h.trans k (fun i hi t => by have : i = g := t; omega)
theorem Fr.same {S : Nat → Prop} {a b c : World} (h : Fr S a b) (k : Fr Nob b c) : Fr S a c := h.trans k (fun _ _ t => t.elim)
theorem Fr.drew {S : Nat → Prop} {a b : World} (h : Fr S a b) : Fr S a b.drew := ⟨h.os, h.tape, h.output, h.size, h.block⟩
theorem Fr.drewN {S : Nat → Prop} {a b : World} (h : Fr S a b) (n : Nat) : Fr S a (b.drewN n) := ⟨h.os, h.tape, h.output, h.size, h.block⟩
theorem Fr.alloc {S : Nat → Prop} {a b : World} (h : Fr S a b) (o : Obj) : Fr S a (b.alloc o) :=
 h.trans (T := Nob) ⟨rfl, rfl, rfl, by simp, fun k hk _ => Below.heap_alloc b o k hk⟩ (fun _ _ t => t.elim)
theorem Fr.setCell {S : Nat → Prop} {a b : World} (h : Fr S a b) (g i : Nat) (s : Option Nat) (u : Value) (hg : g < a.heap.size → S g) : Fr S a (b.setCell ⟨g, i, s⟩ u) :=
 h.trans (T := One g) ⟨rfl, rfl, rfl, by simp [World.setCell], fun k _ hk => heap_setCell_other b _ k u hk⟩ (fun i hi t => by have e : i = g := t; subst e; exact hg hi)
theorem Fr.below {a b : World} (h : Fr Nob a b) : Below a.heap.size a b := ⟨h.os, h.tape, h.output, h.size, fun k hk => h.block k hk id⟩
theorem Fr.cell {S : Nat → Prop} {a b : World} (h : Fr S a b) {g i : Nat} {v : Value} (hs : ¬ S g) (hc : a.cell? ⟨g, i, none⟩ = some v) : b.cell? ⟨g, i, none⟩ = some v :=
 (World.cell?_of_block (a := ⟨g, i, none⟩) (h.block g (block_lt_of_cell hc) hs)).trans hc
def Has (w : World) (g : Nat) (L : List Value) (T : TypeId) : Prop := ∃ lo hi, w.heap[g]? = some (.cells L.toArray T (lo, hi)) ∧ (lo = hi ∨ L.length ≤ lo)
theorem Has.lt {w : World} {g : Nat} {L : List Value} {T : TypeId} (h : Has w g L T) : g < w.heap.size := by
 obtain ⟨lo, hi, h, -⟩ := h
 rcases Nat.lt_or_ge g w.heap.size with k | k
 ·exact k
 ·simp [Array.getElem?_eq_none k] at h
theorem Has.get {w : World} {g : Nat} {L : List Value} {T : TypeId} (h : Has w g L T) (i : Nat) : w.cell? ⟨g, i, none⟩ = L[i]? := by
 obtain ⟨lo, hi, h, -⟩ := h
 rw [cell_of_row w g i _ T _ h]; simp
theorem Has.cell {w : World} {g : Nat} {L : List Value} {T : TypeId} (h : Has w g L T) {i : Nat} {v : Value} (hv : L[i]? = some v) : w.cell? ⟨g, i, none⟩ = some v := (h.get i).trans hv
theorem Has.free {w : World} {g : Nat} {L : List Value} {T : TypeId} (h : Has w g L T) (i : Nat) (hi : i < L.length) : w.frozen? ⟨g, i, none⟩ = false := by
 obtain ⟨lo, hi', h, k⟩ := h
 simp only [World.frozen?, h]
 rcases k with rfl | k
 ·simp <;> omega
 ·simp <;> omega
theorem Has.ready {w : World} {g : Nat} {L : List Value} {T : TypeId} (h : Has w g L T) {i : Nat} (hi : i < L.length) : ∃ v, w.cell? ⟨g, i, none⟩ = some v ∧ w.frozen? ⟨g, i, none⟩ = false :=
 ⟨L[i], h.cell (List.getElem?_eq_getElem hi), h.free i hi⟩
theorem Has.keep {S : Nat → Prop} {w w' : World} {g : Nat} {L : List Value} {T : TypeId} (h : Has w g L T) (hf : Fr S w w') (hs : ¬ S g) : Has w' g L T := by
 have hl := h.lt
 obtain ⟨lo, hi, h, k⟩ := h
 exact ⟨lo, hi, (hf.block g hl hs).trans h, k⟩
theorem Has.set {w : World} {g : Nat} {L : List Value} {T : TypeId} (h : Has w g L T) (i : Nat) (v : Value) : Has (w.setCell ⟨g, i, none⟩ v) g (L.set i v) T := by
 have hl := h.lt
 obtain ⟨lo, hi, h, k⟩ := h
 refine ⟨lo, hi, ?_, by simpa using k⟩
 simp only [World.setCell, Array.getElem?_modify, if_true]
 simp [h]
theorem Has.other {w : World} {g g' : Nat} {L : List Value} {T : TypeId} (h : Has w g L T) (i : Nat) (s : Option Nat) (v : Value) (hn : g ≠ g') : Has (w.setCell ⟨g', i, s⟩ v) g L T := by
 obtain ⟨lo, hi, h, k⟩ := h
 exact ⟨lo, hi, (heap_setCell_other w ⟨g', i, s⟩ g v hn).trans h, k⟩
theorem Has.new (w : World) (L : Array Value) (T : TypeId) : Has (w.alloc (.cells L T)) w.heap.size L.toList T :=
 ⟨0, 0, by have := heap_alloc_new w (.cells L T); simpa using this, .inl rfl⟩
theorem Has.alloc {w : World} {g : Nat} {L : List Value} {T : TypeId} (h : Has w g L T) (o : Obj) : Has (w.alloc o) g L T := by
 have hl := h.lt
 obtain ⟨lo, hi, h, k⟩ := h
 exact ⟨lo, hi, (Below.heap_alloc w o g hl).trans h, k⟩
theorem Has.drew {w : World} {g : Nat} {L : List Value} {T : TypeId} (h : Has w g L T) : Has w.drew g L T := h
theorem Has.drewN {w : World} {g : Nat} {L : List Value} {T : TypeId} (h : Has w g L T) (n : Nat) : Has (w.drewN n) g L T := h
def At (w : World) (b o : Nat) (vs : List Value) : Prop := ∀ i v, vs[i]? = some v → w.cell? ⟨b, o + i, none⟩ = some v
def Rd (w : World) (a : Option Addr) (n : Nat) (vs : List Value) : Prop := vs.length = n ∧ (n = 0 ∨ ∃ b o, a = some ⟨b, o, none⟩ ∧ At w b o vs)
def Off (S : Nat → Prop) (a : Option Addr) : Prop := ∀ x, a = some x → ¬ S x.block
theorem Off.nob (a : Option Addr) : Off Nob a := fun _ _ h => h
theorem At.keep {S : Nat → Prop} {w w' : World} {b o : Nat} {vs : List Value} (h : At w b o vs) (hf : Fr S w w') (hs : ¬ S b) : At w' b o vs :=
 fun i v hv => hf.cell hs (h i v hv)
theorem Rd.keep {S : Nat → Prop} {w w' : World} {a : Option Addr} {n : Nat} {vs : List Value} (h : Rd w a n vs) (hf : Fr S w w') (hs : Off S a) : Rd w' a n vs := by
 refine ⟨h.1, h.2.imp id ?_⟩
 rintro ⟨b, o, rfl, ha⟩
 exact ⟨b, o, rfl, ha.keep hf (hs _ rfl)⟩
theorem Rd.still {w w' : World} {a : Option Addr} {n : Nat} {vs : List Value} (h : Rd w a n vs) (hf : Fr Nob w w') : Rd w' a n vs := h.keep hf (Off.nob a)
theorem Rd.nil (w : World) (a : Option Addr) : Rd w a 0 [] := ⟨rfl, .inl rfl⟩
theorem Rd.len {w : World} {a : Option Addr} {n : Nat} {vs : List Value} (h : Rd w a n vs) : vs.length = n := h.1
theorem Rd.at {w : World} {a : Option Addr} {n : Nat} {vs : List Value} (h : Rd w a n vs) (hn : 0 < n) : ∃ b o, a = some ⟨b, o, none⟩ ∧ At w b o vs := h.2.resolve_left (by omega)
theorem Rd.ofHas {w : World} {g n : Nat} {L : List Value} {T : TypeId} (h : Has w g L T) (o : Nat) (hn : o + n ≤ L.length) : Rd w (some ⟨g, o, none⟩) n ((L.drop o).take n) := by
 refine ⟨by simp; omega, .inr ⟨g, o, rfl, fun i v hv => ?_⟩⟩
 rw [h.get]
 rw [List.getElem?_take] at hv
 split at hv
 ·simpa using hv
 ·cases hv
theorem Rd.whole {w : World} {g : Nat} {L : List Value} {T : TypeId} (h : Has w g L T) : Rd w (some ⟨g, 0, none⟩) L.length L := by
 simpa using Rd.ofHas h 0 (n := L.length) (by simp)
theorem At.cell {w : World} {b o : Nat} {vs : List Value} (h : At w b o vs) {i : Nat} (hi : i < vs.length) : w.cell? ⟨b, o + i, none⟩ = some (vs.getD i undef) :=
 h i _ (by simp [List.getD_eq_getElem?_getD, List.getElem?_eq_getElem hi])
theorem At.sub {w : World} {b o : Nat} {vs : List Value} (h : At w b o vs) (k n : Nat) : At w b (o + k) ((vs.drop k).take n) := by
 intro i v hv
 rw [Nat.add_assoc]
 refine h (k + i) v ?_
 rw [List.getElem?_take] at hv
 split at hv
 ·simpa using hv
 ·cases hv
def bs (l : List UInt8) : List Value := l.map fun x => .int .u8 (x.toNat : Int)
theorem a0H (l : List UInt8) : (bs l).length = l.length := by simp [bs]
theorem c0A (l m : List UInt8) : bs (l ++ m) = bs l ++ bs m := by simp [bs]
theorem e0C (l : List UInt8) (n : Nat) : (bs l).take n = bs (l.take n) := by simp [bs]
theorem l0C (l : List UInt8) (n : Nat) : (bs l).drop n = bs (l.drop n) := by simp [bs]
theorem f0J (l : List UInt8) (i : Nat) (hi : i < l.length) : (bs l)[i]? = some (.int .u8 ((l.getD i 0).toNat : Int)) := by
 simp [bs, List.getElem?_eq_getElem hi, List.getD_eq_getElem?_getD]
theorem e0J (l : List UInt8) (i : Nat) (x : UInt8) : (bs l).set i (.int .u8 (x.toNat : Int)) = bs (l.set i x) := by simp [bs]
theorem h0W (l : List UInt8) : ∀ v ∈ bs l, v.oneCell' = true := by intro v hv; simp [bs] at hv; obtain ⟨x, _, rfl⟩ := hv; rfl
def RdB (w : World) (a : Option Addr) (n : Nat) (l : List UInt8) : Prop := Rd w a n (bs l)
theorem RdB.len {w : World} {a : Option Addr} {n : Nat} {l : List UInt8} (h : RdB w a n l) : l.length = n := by have := h.1; rwa [a0H] at this
theorem RdB.at {w : World} {a : Option Addr} {n : Nat} {l : List UInt8} (h : RdB w a n l) (hn : 0 < n) : ∃ b o, a = some ⟨b, o, none⟩ ∧ ∀ i, i < n → w.cell? ⟨b, o + i, none⟩ = some (.int .u8 ((l.getD i 0).toNat : Int)) := by
 obtain ⟨b, o, ha, hc⟩ := Rd.at h hn
 exact ⟨b, o, ha, fun i hi => hc i _ (f0J l i (by rw [h.len]; exact hi))⟩
theorem RdB.still {w w' : World} {a : Option Addr} {n : Nat} {l : List UInt8} (h : RdB w a n l) (hf : Fr Nob w w') : RdB w' a n l := Rd.still h hf
theorem RdB.keep {S : Nat → Prop} {w w' : World} {a : Option Addr} {n : Nat} {l : List UInt8} (h : RdB w a n l) (hf : Fr S w w') (hs : Off S a) : RdB w' a n l := Rd.keep h hf hs
theorem RdB.nil (w : World) (a : Option Addr) : RdB w a 0 [] := Rd.nil w a
def ws (l : List UInt64) : List Value := l.map fun x => .int .u64 (x.toNat : Int)
theorem a0L (l : List UInt64) : (ws l).length = l.length := by simp [ws]
theorem b0P (l : List UInt64) (i : Nat) (hi : i < l.length) : (ws l)[i]? = some (.int .u64 ((l.getD i 0).toNat : Int)) := by
 simp [ws, List.getElem?_eq_getElem hi, List.getD_eq_getElem?_getD]
theorem e0u (l : List UInt64) (i : Nat) (x : UInt64) : (ws l).set i (.int .u64 (x.toNat : Int)) = ws (l.set i x) := by simp [ws]
def is (l : List Nat) : List Value := l.map fun (x : Nat) => .int .i64 (x : Int)
theorem c0b (l : List Nat) : (is l).length = l.length := by simp [is]
theorem u0B (l : List Nat) (i : Nat) (hi : i < l.length) : (is l)[i]? = some (.int .i64 ((l.getD i 0 : Nat) : Int)) := by
 simp [is, List.getElem?_eq_getElem hi, List.getD_eq_getElem?_getD]
theorem u0C (l : List Nat) (i : Nat) (x : Nat) : (is l).set i (.int .i64 (x : Int)) = is (l.set i x) := by simp [is]
end Go.Mv
namespace Go.Mv
open Go.RowKit
variable {P : Program}
theorem d0d (g o i : Nat) : (⟨g, o, none⟩ : Addr).add i = ⟨g, o + i, none⟩ := by unfold Addr.add; split <;> simp_all
theorem h0X (L : List Value) (o : Nat) : splice L o [] = L := by simp [splice]
theorem g0u (L : List Value) (o : Nat) (v : Value) (vs : List Value) (h : o < L.length) : splice (L.set o v) (o + 1) vs = splice L o (v :: vs) := by
 unfold splice
 have e1 : (L.set o v).take (o + 1) = L.take o ++ [v] := by
  rw [List.take_set, List.take_succ_eq_append_getElem h, List.set_append_right _ _ (by simp; omega), List.length_take, Nat.min_eq_left (Nat.le_of_lt h), Nat.sub_self]
  rfl
 have e2 : (L.set o v).drop (o + 1 + vs.length) = L.drop (o + 1 + vs.length) := by rw [List.drop_set, if_pos (by omega)]
 rw [e1, e2]
 simp [Nat.add_comm, Nat.add_left_comm]
theorem i0F {w : World} {g : Nat} {L : List Value} {T : TypeId} (h : Has w g L T) (i : Nat) (hi : i < L.length) (v : Value) (hv : v.oneCell' = true) :
  (store ⟨g, i, none⟩ v).run P w = .ok () (w.setCell ⟨g, i, none⟩ v) := by
 rw [run_store P w _ v _ hv, h.cell (List.getElem?_eq_getElem hi)]
 simp [h.free i hi]
theorem b0K (g o : Nat) (T : TypeId) : ∀ (vs : List Value) (i : Nat) (L : List Value) (w : World), Has w g L T → o + i + vs.length ≤ L.length → (∀ v ∈ vs, v.oneCell' = true) →
  ∃ w', (storeCells ⟨g, o, none⟩ vs i).run P w = .ok () w' ∧ Has w' g (splice L (o + i) vs) T ∧ Fr (One g) w w' ∧ w'.heap.size = w.heap.size
 | [], i, L, w, h, _, _ => ⟨w, rfl, by rw [h0X]; exact h, Fr.refl _ _, rfl⟩
 | v :: vs, i, L, w, h, hl, h1 => by
  have hi : o + i < L.length := by simp at hl; omega
  obtain ⟨w', hr, hh, hf, hz⟩ := b0K g o T vs (i + 1) (L.set (o + i) v) (w.setCell ⟨g, o + i, none⟩ v) (h.set _ _) (by simp at hl ⊢; omega) (fun x hx => h1 x (by simp [hx]))
  refine ⟨w', ?_, ?_, ?_, ?_⟩
  ·simp only [storeCells, Sem.run_bind, d0d, i0F h (o + i) hi v (h1 v (by simp)), Result.andThen_ok, hr]
  ·rw [← g0u L (o + i) v vs hi]; exact hh
  ·exact ((Fr.refl (One g) w).setCell g (o + i) none v (fun _ => rfl)).trans hf (fun _ _ t => t)
  ·rw [hz]; simp [World.setCell]
theorem At.add {w : World} {b o : Nat} {vs : List Value} (h : At w b o vs) : ∀ j u, vs[j]? = some u → w.cell? ((⟨b, o, none⟩ : Addr).add j) = some u := fun j u hu => by
 rw [d0d]; exact h j u hu
theorem f0t {w : World} {a : Option Addr} {vs : List Value} (size n m c : Nat) (h : At w (a.getD ⟨0, 0, none⟩).block (a.getD ⟨0, 0, none⟩).off (vs.take (n * size)) ∨ n * size = 0) (ha : 0 < n * size → ∃ b o, a = some ⟨b, o, none⟩) (hl : n * size ≤ vs.length) :
  (Builtin.firstCells size n (.slice a m c)).run P w = .ok (vs.take (n * size)).toArray w := by
 rcases Nat.eq_zero_or_pos (n * size) with h0 | h0
 ·rw [h0]
  cases a with
  | none => simp [Builtin.firstCells]
  | some ad => simp [Builtin.firstCells, h0, loadCells, loadCellsFrom]
 ·obtain ⟨b, o, rfl⟩ := ha h0
  have h := h.resolve_right (by omega)
  exact run_firstCells_some (P := P) w size n ⟨b, o, none⟩ m c (vs.take (n * size)) (by simp; omega) h.add
theorem d0o {w : World} {a : Option Addr} {k : Nat} {vs : List Value} (h : Rd w a k vs) (size n m c : Nat) (hl : n * size ≤ k) :
  (Builtin.firstCells size n (.slice a m c)).run P w = .ok (vs.take (n * size)).toArray w := by
 refine f0t size n m c ?_ ?_ (by rw [h.len]; exact hl)
 ·rcases Nat.eq_zero_or_pos (n * size) with h0 | h0
  ·exact .inr h0
  ·obtain ⟨b, o, rfl, hc⟩ := h.at (by omega)
   refine .inl fun i v hv => hc i v ?_
   rw [List.getElem?_take] at hv
   split at hv
   ·exact hv
   ·cases hv
 ·intro h0
  obtain ⟨b, o, rfl, _⟩ := h.at (by omega)
  exact ⟨b, o, rfl⟩
def Own (w : World) (base : Nat) (T : TypeId) (sz : Nat) (v : Value) (n : Nat) (L : List Value) : Prop :=
 L.length = n * sz ∧ ((v = .slice none 0 0 ∧ n = 0) ∨
  ∃ g o cap B, v = .slice (some ⟨g, o, none⟩) n cap ∧ base ≤ g ∧ Has w g B T ∧ n ≤ cap ∧ cap ≤ maxLen ∧ o + cap * sz ≤ B.length ∧ (B.drop o).take (n * sz) = L)
def c0o (v : Value) : Nat → Prop := fun k => v.ownBlock = some k
theorem Own.nil (w : World) (base : Nat) (T : TypeId) (sz : Nat) : Own w base T sz (.slice none 0 0) 0 [] := ⟨by simp, .inl ⟨rfl, rfl⟩⟩
theorem Own.lt {w : World} {base : Nat} {T : TypeId} {sz : Nat} {v : Value} {n : Nat} {L : List Value} (h : Own w base T sz v n L) {k : Nat} (hk : c0o v k) : base ≤ k ∧ k < w.heap.size := by
 rcases h.2 with ⟨rfl, _⟩ | ⟨g, o, cap, B, rfl, hb, hh, _⟩
 ·cases hk
 ·have : g = k := by simpa [c0o, Value.ownBlock] using hk
  subst this
  exact ⟨hb, hh.lt⟩
theorem Own.keep {S : Nat → Prop} {w w' : World} {base : Nat} {T : TypeId} {sz : Nat} {v : Value} {n : Nat} {L : List Value} (h : Own w base T sz v n L) (hf : Fr S w w') (hs : ∀ k, c0o v k → ¬ S k) : Own w' base T sz v n L := by
 refine ⟨h.1, h.2.imp id ?_⟩
 rintro ⟨g, o, cap, B, rfl, hb, hh, r⟩
 exact ⟨g, o, cap, B, rfl, hb, hh.keep hf (hs g rfl), r⟩
theorem Own.still {w w' : World} {base : Nat} {T : TypeId} {sz : Nat} {v : Value} {n : Nat} {L : List Value} (h : Own w base T sz v n L) (hf : Fr Nob w w') : Own w' base T sz v n L := h.keep hf (fun _ _ t => t)
theorem Own.mono {w : World} {base base' : Nat} {T : TypeId} {sz : Nat} {v : Value} {n : Nat} {L : List Value} (h : Own w base T sz v n L) (hb : base' ≤ base) : Own w base' T sz v n L := by
 refine ⟨h.1, h.2.imp id ?_⟩
 rintro ⟨g, o, cap, B, rfl, hb', r⟩
 exact ⟨g, o, cap, B, rfl, Nat.le_trans hb hb', r⟩
theorem Own.form {w : World} {base : Nat} {T : TypeId} {sz : Nat} {v : Value} {n : Nat} {L : List Value} (h : Own w base T sz v n L) : ∃ a cap, v = .slice a n cap ∧ n ≤ cap ∧ Rd w a (n * sz) L ∧ (∀ x, a = some x → base ≤ x.block) := by
 rcases h.2 with ⟨rfl, rfl⟩ | ⟨g, o, cap, B, rfl, hb, hh, hn, hm, hl, ht⟩
 ·refine ⟨none, 0, rfl, Nat.le_refl _, ⟨by simpa using h.1, .inl (by simp)⟩, by simp⟩
 ·have hle : n * sz ≤ cap * sz := Nat.mul_le_mul_right _ hn
  refine ⟨_, cap, rfl, hn, ?_, by simpa using hb⟩
  rw [← ht]
  exact Rd.ofHas hh o (by omega)
theorem Own.made {w : World} {g : Nat} {T : TypeId} {B : List Value} (h : Has w g B T) (base : Nat) (hb : base ≤ g) (sz n cap : Nat) (hn : n ≤ cap) (hm : cap ≤ maxLen) (hl : cap * sz ≤ B.length) :
  Own w base T sz (.slice (some ⟨g, 0, none⟩) n cap) n (B.take (n * sz)) := by
 have hle : n * sz ≤ cap * sz := Nat.mul_le_mul_right _ hn
 exact ⟨by simp; omega, .inr ⟨g, 0, cap, B, rfl, hb, h, hn, hm, by omega, by simp⟩⟩
theorem Own.fr {S : Nat → Prop} {w0 w w' : World} {base : Nat} {T : TypeId} {sz : Nat} {v : Value} {n : Nat} {L : List Value} (h : Own w base T sz v n L) (hf : Fr S w0 w) (hb : w0.heap.size ≤ base) (k : Fr (c0o v) w w') : Fr S w0 w' :=
 hf.trans k (fun _ hi t => by have := (h.lt t).1; omega)
theorem d0F (L : List Value) (o : Nat) (vs : List Value) (h : o + vs.length ≤ L.length) : (splice L o vs).length = L.length := length_splice L o vs h
theorem g0v (L : List Value) (o k : Nat) (vs : List Value) (h : o + k + vs.length ≤ L.length) : ((splice L (o + k) vs).drop o).take (k + vs.length) = (L.drop o).take k ++ vs := by
 unfold splice
 have h1 : (L.take (o + k)).drop o = (L.drop o).take k := by rw [List.drop_take]; congr 1; omega
 rw [List.drop_append_of_le_length (by simp; omega), h1]
 rw [← List.append_assoc]
 exact List.take_left' (by simp; omega)
theorem c0F {w : World} (t ty e : TypeId) (i : TypeInfo) (ht : P.underlying t = some (.slice e)) (hi : P.info? e = some i)
  (g o sLen sCap : Nat) (B : List Value) (T : TypeId) (hg : Has w g B T) (a : Option Addr) (m c : Nat) (news : List Value) (hnews : Rd w a (m * i.size) news) (h1 : ∀ u ∈ news, u.oneCell' = true)
  (hroom : sLen + m ≤ sCap) (hfit : o + sLen * i.size + news.length ≤ B.length) :
  ∃ w', (Builtin.append_ #[t, t] ty #[.slice (some ⟨g, o, none⟩) sLen sCap, .slice a m c]).run P w = .ok (.slice (some ⟨g, o, none⟩) (sLen + m) sCap) w' ∧
   Has w' g (splice B (o + sLen * i.size) news) T ∧ Fr (One g) w w' ∧ w'.heap.size = w.heap.size := by
 have hf := d0o (P := P) hnews i.size m m c (Nat.le_refl _)
 rw [List.take_of_length_le (by rw [hnews.len]; exact Nat.le_refl _)] at hf
 obtain ⟨w', hst, hh, hfr, hz⟩ := b0K (P := P) g (o + sLen * i.size) T news 0 B w hg (by omega) h1
 simp only [Nat.add_zero] at hh
 refine ⟨w', ?_, hh, hfr, hz⟩
 simp [Builtin.append_, run_underlying ht, sizeOf, typeInfo, hi, Builtin.lenOf, hroom, hf, d0d, hst]
theorem d0X {w : World} (t ty e : TypeId) (i : TypeInfo) (ht : P.underlying t = some (.slice e)) (hi : P.info? e = some i) (s : Option Addr) (sLen sCap : Nat) (hl : sLen ≤ sCap) (a : Option Addr) (c : Nat) :
  (Builtin.append_ #[t, t] ty #[.slice s sLen sCap, .slice a 0 c]).run P w = .ok (.slice s sLen sCap) w := by
 have hf : (Builtin.firstCells i.size 0 (.slice a 0 c)).run P w = .ok #[] w := by
  cases a <;> simp [Builtin.firstCells, loadCells, loadCellsFrom]
 cases s <;> simp [Builtin.append_, run_underlying ht, sizeOf, typeInfo, hi, Builtin.lenOf, hl, hf, storeCells]
theorem l0D {w : World} (base : Nat) (t ty e : TypeId) (z : Value) (sz by_ : Nat) (ht : P.underlying t = some (.slice e)) (hi0 : (P.info? e).map (fun i => (i.zero, i.size, i.bytes)) = some (some z, sz, by_))
  (hzs : z.cells.size = sz) (hsz : 0 < sz)
  (v : Value) (n : Nat) (L : List Value) (hown : Own w base e sz v n L)
  (a : Option Addr) (m c : Nat) (news : List Value) (hnews : Rd w a (m * sz) news) (h1 : ∀ u ∈ news, u.oneCell' = true)
  (h63 : n + m ≤ maxLen) (hbytes : (n + m) * by_ ≤ 140737488355328) (hbase : base ≤ w.heap.size) :
  ∃ v' w', (Builtin.append_ #[t, t] ty #[v, .slice a m c]).run P w = .ok v' w' ∧ Own w' base e sz v' (n + m) (L ++ news) ∧ Fr (c0o v) w w' ∧
   (v'.ownBlock = v.ownBlock ∨ v'.ownBlock = some w.heap.size) := by
 obtain ⟨i, hi, hz, hsize, hby⟩ := info_parts hi0
 subst hsize
 subst hby
 rcases Nat.eq_zero_or_pos m with rfl | hm
 ·obtain ⟨s, cap, rfl, hc, -, -⟩ := hown.form
  have hn : news = [] := List.eq_nil_of_length_eq_zero (by rw [hnews.len]; simp)
  subst hn
  exact ⟨_, w, d0X t ty e i ht hi s n cap hc a c, by simpa using hown, Fr.refl _ _, .inl rfl⟩
 have hms : 0 < m * i.size := Nat.mul_pos hm hsz
 obtain ⟨b, o', rfl, hat⟩ := hnews.at hms
 have hlen : (L ++ news).length = (n + m) * i.size := by rw [List.length_append, hown.1, hnews.len, Nat.add_mul]
 have hsmall : n + m ≤ 9223372036854775807 := by simp only [maxLen] at h63; omega
 have grown : ∀ (old : Nat), old < n + m →
   Own (w.drew.alloc (.cells (L.toArray ++ news.toArray ++ Builtin.zeroCells z.cells (grownCap w (n + m) old e - (n + m))) e)) base e i.size
    (.slice (some ⟨w.heap.size, 0, none⟩) (n + m) (grownCap w (n + m) old e)) (n + m) (L ++ news) ∧
   Fr (c0o v) w (w.drew.alloc (.cells (L.toArray ++ news.toArray ++ Builtin.zeroCells z.cells (grownCap w (n + m) old e - (n + m))) e)) := by
  intro old ho
  have hge := grownCap_ge w (n + m) old e
  have hcm : grownCap w (n + m) old e ≤ maxLen := grownCap_le_maxLen w (n + m) old e h63
  have hz' : (Builtin.zeroCells z.cells (grownCap w (n + m) old e - (n + m))).size = (grownCap w (n + m) old e - (n + m)) * i.size := by simp [size_zeroCells, hzs]
  have hmul : (n + m) * i.size + (grownCap w (n + m) old e - (n + m)) * i.size = grownCap w (n + m) old e * i.size := by rw [← Nat.add_mul]; congr 1; omega
  refine ⟨⟨hlen, .inr ⟨w.heap.size, 0, _, _, rfl, hbase, Has.new w.drew _ e, hge, hcm, ?_, ?_⟩⟩, ((Fr.refl _ w).drew).alloc _⟩
  ·rw [List.length_append] at hlen
   simp only [Array.toList_append, List.length_append, Array.length_toList, hz', Nat.zero_add]
   omega
  ·simp only [Array.toList_append, List.drop_zero]
   rw [← hlen]
   exact List.take_left
 rcases hown.2 with ⟨rfl, rfl⟩ | ⟨g, o, cap, B, rfl, hbg, hg, hnc, hcm, hl, htake⟩
 ·have hx : L = [] := List.eq_nil_of_length_eq_zero (by simpa using hown.1)
  subst hx
  have hr := run_append_nil (P := P) w t ty e i z ht hi hz ⟨b, o', none⟩ m c news hnews.len hat.add hm (by omega) (by have hb := hbytes; simp only [Nat.zero_add] at hb; omega)
  have hgr := grown 0 (by omega)
  simp only [Nat.zero_add, List.nil_append, Array.empty_append] at hgr ⊢
  exact ⟨_, _, hr, hgr.1, hgr.2, .inr rfl⟩
 ·by_cases hroom : n + m ≤ cap
  ·have hle : (n + m) * i.size ≤ cap * i.size := Nat.mul_le_mul_right _ hroom
   have hnl := hnews.len
   have hfit : o + n * i.size + news.length ≤ B.length := by rw [Nat.add_mul] at hle; omega
   obtain ⟨w', hr, hh, hf, hzz⟩ := c0F (P := P) t ty e i ht hi g o n cap B e hg _ m c news hnews h1 hroom hfit
   refine ⟨_, _, hr, ⟨hlen, .inr ⟨g, o, cap, _, rfl, hbg, hh, hroom, hcm, ?_, ?_⟩⟩, hf.mono (fun k _ t => by have e : k = g := t; subst e; rfl), .inl rfl⟩
   ·rw [d0F _ _ _ hfit]; exact hl
   ·have := g0v B o (n * i.size) news hfit
    rw [htake] at this
    rw [← this, hnl, Nat.add_mul]
  ·have hle : n * i.size ≤ cap * i.size := Nat.mul_le_mul_right _ hnc
   have hrd : Rd w (some ⟨g, o, none⟩) (n * i.size) L := by rw [← htake]; exact Rd.ofHas hg o (by omega)
   have holds : ∀ j u, L[j]? = some u → w.cell? ((⟨g, o, none⟩ : Addr).add j) = some u := by
    rcases Nat.eq_zero_or_pos (n * i.size) with h0 | h0
    ·have : L = [] := List.eq_nil_of_length_eq_zero (by rw [hown.1, h0])
     subst this; intro j u hu; simp at hu
    ·obtain ⟨b2, o2, he, hc2⟩ := hrd.at h0
     simp only [Option.some.injEq, Addr.mk.injEq] at he
     obtain ⟨rfl, rfl, -⟩ := he
     exact hc2.add
   have hr := run_append_grow (P := P) w t ty e i z ht hi hz ⟨g, o, none⟩ n cap L hown.1 holds ⟨b, o', none⟩ m c news hnews.len hat.add (by omega) (by omega) (growslice_fits (by omega) hbytes)
   have hgr := grown cap (by omega)
   exact ⟨_, _, hr, hgr.1, hgr.2, .inr rfl⟩
theorem v0q (s : ByteArray) : bs s.data.toList = (s.data.map fun b => Value.int .u8 b.toNat).toList := by simp [bs]
theorem u0D (s : ByteArray) : (bs s.data.toList).length = s.size := by simp [bs]
section
variable {w : World} {ops : Array Oper} {rest : List Oper} {o : Oper} {a : Act} {Q : Exit → Act → World → Prop}
theorem b0L {s x : Operand} {t : TypeId} (hgd : o.guard = none) (ho : o.op = .call { callee := .builtin .append, args := #[s, x], argTypes := #[t, t] })
  {e : TypeId} {z : Value} {sz by_ : Nat} (ht : P.underlying t = some (.slice e)) (hi0 : (P.info? e).map (fun i => (i.zero, i.size, i.bytes)) = some (some z, sz, by_))
  (hzs : z.cells.size = sz) (hsz : 0 < sz)
  {v : Value} {n base : Nat} {L : List Value} (hown : Own w base e sz v n L) (hs : a.eval s = v)
  {xa : Option Addr} {m c : Nat} {news : List Value} (hx : a.eval x = .slice xa m c) (hnews : Rd w xa (m * sz) news) (h1 : ∀ u ∈ news, u.oneCell' = true)
  (h63 : n + m ≤ maxLen) (hbytes : (n + m) * by_ ≤ 140737488355328) (hbase : base ≤ w.heap.size)
  (h : ∀ v' w', Own w' base e sz v' (n + m) (L ++ news) → Fr (c0o v) w w' → (v'.ownBlock = v.ownBlock ∨ v'.ownBlock = some w.heap.size) → wpList P ops Q rest (a.put o.dst v') w') : wpList P ops Q (o :: rest) a w := by
 refine wpList_plain hgd fun K hK => ?_
 obtain ⟨v', w', hr, h2, h3, h4⟩ := l0D (P := P) base t o.type e z sz by_ ht hi0 hzs hsz v n L hown xa m c news hnews h1 h63 hbytes hbase
 unfold Oper.wp execOp
 simp only [ho, resolve, invoke, builtin, Sem.run_bind, Sem.run_pure, Result.andThen_ok, List.map_toArray, List.map_cons, List.map_nil, hs, hx, hr]
 exact hK _ _ (h v' w' h2 h3 h4)
theorem i0G (z : Value) (hz : z.cells = #[z]) (n : Nat) : (madeCells z.cells n).toList = List.replicate n z := by rw [hz]; exact toList_madeCells_one z n
theorem c0p {l c : Operand} {t : TypeId} (hgd : o.guard = none) (ho : o.op = .makeSlice t l c) {e : TypeId} {z : Value} {by_ : Nat} (ht : P.underlying t = some (.slice e))
  (hi0 : (P.info? e).map (fun i => (i.zero, i.size, i.bytes)) = some (some z, 1, by_)) (hzc : z.cells = #[z]) {kl kc : IntKind} {x y : Int} (hl : a.eval l = .int kl x) (hc : a.eval c = .int kc y) (n m : Nat) (hx : x = n) (hy : y = m) (hnm : n ≤ m)
  (hb : by_ * m ≤ 281474976710656) (h63 : m ≤ maxLen)
  (h : ∀ w', Has w' w.heap.size (List.replicate m z) e → Fr Nob w w' → w'.heap.size = w.heap.size + 1 → wpList P ops Q rest (a.put o.dst (.slice (some ⟨w.heap.size, 0, none⟩) n m)) w') : wpList P ops Q (o :: rest) a w := by
 refine wpList_plain hgd fun K hK => ?_
 obtain ⟨i, hi, hz, hsize, hby⟩ := info_parts hi0
 subst hx
 subst hy
 have hmx : (m : Int) ≤ 9223372036854775807 := by simp only [maxLen] at h63; omega
 have hbb : (i.bytes : Int) * (m : Int) ≤ 281474976710656 := by
  have k : ((i.bytes * m : Nat) : Int) ≤ 281474976710656 := by rw [hby]; omega
  rwa [Int.natCast_mul] at k
 have hr := run_make (P := P) w t e i z ht hi hz kl kc n m (by omega) (by omega) hbb hmx
 simp only [Int.toNat_natCast, hsize, Nat.mul_one] at hr
 unfold Oper.wp execOp
 simp only [ho, hl, hc, Sem.run_bind, Sem.run_pure, Result.andThen_ok, hr]
 refine hK _ _ (h _ ?_ ((Fr.refl _ w).alloc _) (by simp))
 have := Has.new w (madeCells z.cells m) e
 rwa [i0G z hzc] at this
theorem p0t {d s : Operand} {t u : TypeId} (hgd : o.guard = none) (ho : o.op = .call { callee := .builtin .copy, args := #[d, s], argTypes := #[t, u] }) {e : TypeId} (ht : P.underlying t = some (.slice e)) (hsz : (P.info? e).map (·.size) = some 1)
  {g off dn dc : Nat} (hd : a.eval d = .slice (some ⟨g, off, none⟩) dn dc) {sa : Option Addr} {m c : Nat} (hs : a.eval s = .slice sa m c) {B vs : List Value} {T : TypeId} (hg : Has w g B T) (hrd : Rd w sa m vs) (h1 : ∀ v ∈ vs, v.oneCell' = true)
  (hfit : off + min m dn ≤ B.length)
  (h : ∀ w', Has w' g (splice B off (vs.take (min m dn))) T → Fr (One g) w w' → w'.heap.size = w.heap.size → wpList P ops Q rest (a.put o.dst (.int .i64 (min m dn : Nat))) w') : wpList P ops Q (o :: rest) a w := by
 refine wpList_plain hgd fun K hK => ?_
 obtain ⟨i, hi, hi1⟩ : ∃ i, P.info? e = some i ∧ i.size = 1 := by simpa using hsz
 have hfc := d0o (P := P) hrd 1 (min m dn) m c (by omega)
 rw [Nat.mul_one] at hfc
 have hlen : (vs.take (min m dn)).length = min m dn := by rw [List.length_take, hrd.len]; omega
 obtain ⟨w', hst, hh, hf, hz⟩ := b0K (P := P) g off T (vs.take (min m dn)) 0 B w hg (by rw [hlen]; omega) (fun v hv => h1 v (List.mem_of_mem_take hv))
 simp only [Nat.add_zero] at hh
 have hr : (Builtin.copy_ #[t, u] o.type #[.slice (some ⟨g, off, none⟩) dn dc, .slice sa m c]).run P w = .ok (.int .i64 (min m dn : Nat)) w' := by
  simp [Builtin.copy_, run_underlying ht, sizeOf, typeInfo, hi, hi1, Builtin.lenOf, hfc, hst, goInt]
 unfold Oper.wp execOp
 simp only [ho, resolve, invoke, builtin, Sem.run_bind, Sem.run_pure, Result.andThen_ok, List.map_toArray, List.map_cons, List.map_nil, hd, hs, hr]
 exact hK _ _ (h w' hh hf hz)
def mkS (l : List UInt8) : ByteArray := ⟨l.toArray⟩
theorem f0X (s : ByteArray) : mkS s.data.toList = s := by simp [mkS]
theorem a0w (l : List UInt8) : (mkS l).size = l.length := by simp [mkS, ByteArray.size]
theorem b0b (l : List UInt8) : (mkS l).data.toList = l := by simp [mkS]
theorem b0J {sa : Option Addr} {m : Nat} {l : List UInt8} (hrd : RdB w sa m l) (c : Nat) {src e dst : TypeId} (hs : P.underlying src = some (.slice e)) (he : P.underlying e = some (.int .u8)) (hd : P.underlying dst = some .string) :
  (convert src dst (.slice sa m c)).run P w = .ok (.string (mkS l)) w := by
 have hl := hrd.len
 rcases Nat.eq_zero_or_pos m with h0 | h0
 ·subst h0
  obtain rfl : l = [] := List.eq_nil_of_length_eq_zero hl
  cases sa with
  | none => exact run_convert_bytes_nil w src e hs he 0 c dst hd
  | some ad =>
   rw [run_convert_bytes_string w src dst e _ 0 c hs he hd]
   simp [Conv.bytesToString, mkS, loadCells, loadCellsFrom]
   rfl
 ·obtain ⟨b, o, rfl, hc⟩ := hrd.at h0
  have := run_convert_bytes_arg (P := P) w src e hs he b o m c (l.map fun x => (x.toNat : Int)) (by simp [hl]) (fun i hi => by
   rw [hc i hi]; simp [List.getD_eq_getElem?_getD, List.getElem?_eq_getElem (show i < l.length by omega)]) dst hd
  rw [this]
  have hid : (l.map ((fun n : Int => UInt8.ofNat n.toNat) ∘ fun x : UInt8 => (x.toNat : Int))) = l := by
   rw [List.map_congr_left (g := id)]
   ·simp
   ·intro x _; simp
  simp only [strOfNums, List.map_map, hid, mkS]
theorem d0p {x : Operand} {src dst : TypeId} (hgd : o.guard = none) (ho : o.op = .convert src dst x) {e : TypeId} (hs : P.underlying src = some (.slice e)) (he : P.underlying e = some (.int .u8)) (hd : P.underlying dst = some .string)
  {sa : Option Addr} {m c : Nat} {l : List UInt8} (hx : a.eval x = .slice sa m c) (hrd : RdB w sa m l) (h : wpList P ops Q rest (a.put o.dst (.string (mkS l))) w) : wpList P ops Q (o :: rest) a w := by
 refine wpList_plain hgd fun K hK => ?_
 have hr := b0J (P := P) hrd c hs he hd
 unfold Oper.wp execOp
 simp only [ho, hx, Sem.run_bind, Sem.run_pure, Result.andThen_ok, hr]
 exact hK _ _ h
theorem d0e {x : Operand} {src dst : TypeId} (hgd : o.guard = none) (ho : o.op = .convert src dst x) {e : TypeId} (hs : P.underlying src = some .string) (hd : P.underlying dst = some (.slice e)) (he : P.underlying e = some (.int .u8))
  {q : ByteArray} (hx : a.eval x = .string q) (hq : q.size ≤ maxLen) (base : Nat) (hb : base ≤ w.heap.size)
  (h : ∀ cap w', Own w' base e 1 (.slice (some ⟨w.heap.size, 0, none⟩) q.size cap) q.size (bs q.data.toList) → Fr Nob w w' → w.heap.size < w'.heap.size → wpList P ops Q rest (a.put o.dst (.slice (some ⟨w.heap.size, 0, none⟩) q.size cap)) w') : wpList P ops Q (o :: rest) a w := by
 refine wpList_plain hgd fun K hK => ?_
 have hr := run_bytes_of_string (P := P) w src dst e q hs hd he
 have hge := grownCap_ge w q.size 0 e
 have hcm := grownCap_le_maxLen w q.size 0 e hq
 unfold Oper.wp execOp
 simp only [ho, hx, Sem.run_bind, Sem.run_pure, Result.andThen_ok, hr]
 refine hK _ _ (h _ _ ⟨by rw [u0D]; omega, .inr ⟨w.heap.size, 0, _, (bytesRow q (grownCap w q.size 0 e)).toList, rfl, hb, ?_, hge, hcm, ?_, ?_⟩⟩ (((Fr.refl _ w).drew).alloc _) (by simp))
 ·refine ⟨(bytesRow q (grownCap w q.size 0 e)).size, (bytesRow q (grownCap w q.size 0 e)).size + 1, ?_, .inr (Nat.le_of_eq ?_)⟩
  ·have := heap_alloc_new w.drew (.cells (bytesRow q (grownCap w q.size 0 e)) e ((bytesRow q (grownCap w q.size 0 e)).size, (bytesRow q (grownCap w q.size 0 e)).size + 1))
   simpa using this
  ·simp
 ·have hd : q.data.size = q.size := rfl
  simp [bytesRow, hd]; omega
 ·simp only [bytesRow, Array.toList_append, List.drop_zero, Nat.mul_one]
  rw [← v0q]
  exact List.take_left' (by rw [u0D])
end
def p0u (p : Prop) : Prop := p
theorem e0D {w : World} {ops : Array Oper} {rest : List Oper} {o : Oper} {a : Act} {Q : Exit → Act → World → Prop} (h : p0u (wpList P ops Q (o :: rest) a w)) : wpList P ops Q (o :: rest) a w := h
theorem _root_.qH {p : Prop} (h : p) : Hid p := h
theorem wSk (k : Nat) {P : Program} {w : World} {ops : Array Oper} {rest : List Oper} {p1 : Op} {p2 : TypeId} {p3 : String} {p4 : Array Edge} {p5 : Option (Nat × Bool)} {a : Act} {Q : Exit → Act → World → Prop} (h : p0u (wpList P ops Q (⟨some k, p1, p2, p3, p4, p5⟩ :: rest) a w)) : wpList P ops Q (⟨some k, p1, p2, p3, p4, p5⟩ :: rest) a w := h
theorem wSn {P : Program} {w : World} {ops : Array Oper} {rest : List Oper} {p1 : Op} {p2 : TypeId} {p3 : String} {p4 : Array Edge} {p5 : Option (Nat × Bool)} {a : Act} {Q : Exit → Act → World → Prop} (h : p0u (wpList P ops Q (⟨none, p1, p2, p3, p4, p5⟩ :: rest) a w)) : wpList P ops Q (⟨none, p1, p2, p3, p4, p5⟩ :: rest) a w := h
theorem dZl {α : Type} {l : List α} : List.take l.length (List.drop 0 l) = l := by rw [List.drop_zero, List.take_of_length_le (Nat.le_refl _)]
abbrev _root_.zAc : Go.Value := .agg #[.int .u64 0, .int .u64 0, .int .u64 0, .int .u64 0, .int .u64 0, .int .u64 0, .int .u64 0, .int .u64 0, .int .u64 0, .int .u64 0, .int .u64 0, .int .u64 0]
abbrev _root_.zAd : Go.Value := .agg #[.int .u64 0, .int .u64 0, .int .u64 0, .int .u64 0]
end Go.Mv
namespace Mvp
def fill {α : Type} (F I : List α) (k : Nat) : List α := F.take k ++ I.drop k
theorem b0W {α : Type} (F I : List α) (k : Nat) (h : F.length = I.length) : (fill F I k).length = I.length := by simp [fill]; omega
theorem e0K {α : Type} (F I : List α) : fill F I 0 = I := by simp [fill]
theorem e0L {α : Type} (F I : List α) (k : Nat) (h : F.length = I.length) (hk : F.length ≤ k) : fill F I k = F := by
 unfold fill
 rw [List.take_of_length_le hk, List.drop_eq_nil_of_le (by omega), List.append_nil]
theorem f0Y {α : Type} (F I : List α) (k : Nat) (h : F.length = I.length) (hk : k < F.length) (d : α) : (fill F I k).set k (F.getD k d) = fill F I (k + 1) := by
 unfold fill
 have e : F.getD k d = F[k] := by simp [List.getD_eq_getElem?_getD, hk]
 rw [e, List.set_append_right _ _ (by simp; omega), List.length_take, Nat.min_eq_left (Nat.le_of_lt hk), Nat.sub_self, List.drop_eq_getElem_cons (by omega), List.set_cons_zero, List.take_succ_eq_append_getElem hk]
 simp only [List.append_assoc, List.singleton_append]
theorem s0p {α : Type} (F I : List α) (k i : Nat) (h : F.length = I.length) (hk : k ≤ i) : (fill F I k)[i]? = I[i]? := by
 unfold fill
 rcases Nat.lt_or_ge i I.length with hi | hi
 ·rw [List.getElem?_append_right (by simp; omega)]
  simp [Nat.min_eq_left (show k ≤ F.length by omega), List.getElem?_drop, show k + (i - k) = i by omega]
 ·rw [List.getElem?_eq_none (by simp; omega), List.getElem?_eq_none hi]
def shl (x : UInt64) (k : Nat) : UInt64 := UInt64.ofNat (x.toNat * 2 ^ k)
def shr (x : UInt64) (k : Nat) : UInt64 := UInt64.ofNat (x.toNat / 2 ^ k)
def wx (x y : UInt64) : UInt64 := x ^^^ y
def wo (x y : UInt64) : UInt64 := x ||| y
def wa (x y : UInt64) : UInt64 := x &&& y
def wn (x : UInt64) : UInt64 := ~~~x
def wid (x : UInt8) : UInt64 := x.toUInt64
def lo8 (x : UInt64) : UInt8 := x.toUInt8
def bx (x y : UInt8) : UInt8 := x ^^^ y
def bo (x y : UInt8) : UInt8 := x ||| y
def ba (x y : UInt8) : UInt8 := x &&& y
def l0E (x : UInt64) (n : Nat) : UInt64 := shl x n ||| shr x (64 - n)
end Mvp
namespace Go.Mv
open Go.RowKit Mvp
theorem e0v (x : UInt64) : x.toNat < 18446744073709551616 := x.toNat_lt
theorem j0O (x : UInt64) (k : Nat) : (shr x k).toNat = x.toNat / 2 ^ k := by
 have := e0v x
 have h := Nat.div_le_self x.toNat (2 ^ k)
 simp only [shr, UInt64.toNat_ofNat']
 exact Nat.mod_eq_of_lt (Nat.lt_of_le_of_lt h this)
theorem j0P (x : UInt64) (k : Nat) : (shl x k).toNat = x.toNat * 2 ^ k % 18446744073709551616 := by simp [shl]
theorem l0F (x : UInt64) (yk : IntKind) (k : Nat) : Op.shift .shl .u64 (x.toNat : Int) yk (k : Int) = pure (.int .u64 ((shl x k).toNat : Int)) := by
 rw [shift_shl_any _ _ _ _ (by omega), j0P]
 congr 2
 rw [IntKind.wrap_u64]
 simp only [Int.toNat_natCast, IntKind.bits]
 rcases Nat.lt_or_ge k 64 with h | h
 ·rw [Nat.min_eq_left (by omega)]
  simp
 ·rw [Nat.min_eq_right (by omega)]
  obtain ⟨j, rfl⟩ : ∃ j, k = 64 + j := ⟨k - 64, by omega⟩
  have e : x.toNat * 2 ^ (64 + j) = x.toNat * 2 ^ j * 18446744073709551616 := by
   have e64 : (2 : Nat) ^ 64 = 18446744073709551616 := by decide
   rw [Nat.pow_add, e64]; ac_rfl
  rw [e, Nat.mul_mod_left]
  have e2 : (2 : Int) ^ 64 = 18446744073709551616 := by decide
  rw [e2]
  omega
theorem p0v (x : UInt64) (yk : IntKind) (k : Nat) : Op.shift .shr .u64 (x.toNat : Int) yk (k : Int) = pure (.int .u64 ((shr x k).toNat : Int)) := by
 rw [shift_shr_any _ _ _ _ (by omega), j0O]
 congr 2
 simp only [Int.toNat_natCast, IntKind.bits]
 rcases Nat.lt_or_ge k 64 with h | h
 ·rw [Nat.min_eq_left (by omega)]
  simp
 ·rw [Nat.min_eq_right (by omega)]
  have hx := e0v x
  have e2 : (2 : Int) ^ 64 = 18446744073709551616 := by decide
  have h3 : x.toNat / 2 ^ k = 0 := Nat.div_eq_of_lt (Nat.lt_of_lt_of_le hx (by have := Nat.pow_le_pow_right (show 0 < 2 by omega) h; simpa using this))
  rw [e2, h3]
  omega
theorem v0r (x : UInt64) (yk : IntKind) (n : Nat) : Op.shift .shl .u64 (x.toNat : Int) yk (no_index (OfNat.ofNat n)) = pure (.int .u64 ((shl x n).toNat : Int)) := l0F x yk n
theorem v0s (x : UInt64) (yk : IntKind) (n : Nat) : Op.shift .shr .u64 (x.toNat : Int) yk (no_index (OfNat.ofNat n)) = pure (.int .u64 ((shr x n).toNat : Int)) := p0v x yk n
theorem l0G (x y : UInt64) : bits .xor .u64 (x.toNat : Int) (y.toNat : Int) = ((wx x y).toNat : Int) := by
 have := bits_xor_u64_nat x.toNat y.toNat (e0v x) (e0v y)
 rw [this]; simp [wx]
theorem u0E (x y : UInt64) : bits .or .u64 (x.toNat : Int) (y.toNat : Int) = ((wo x y).toNat : Int) := by
 have := bits_or_u64_nat x.toNat y.toNat (e0v x) (e0v y)
 rw [this]; simp [wo]
theorem v0t (x y : UInt64) : bits .and .u64 (x.toNat : Int) (y.toNat : Int) = ((wa x y).toNat : Int) := by
 have := bits_and_u64_nat x.toNat y.toNat (e0v x) (e0v y)
 rw [this]; simp [wa]
theorem p0w (x : UInt64) : bits .xor .u64 18446744073709551615 (x.toNat : Int) = ((wn x).toNat : Int) := by
 have e : (18446744073709551615 : Int) = (((18446744073709551615 : UInt64).toNat : Nat) : Int) := by decide
 have e1 : (18446744073709551615 : UInt64) = -1 := by decide
 rw [e, l0G, e1, wx, UInt64.neg_one_xor, wn]
theorem s0q (x : UInt64) : bits .xor .u64 (if IntKind.u64.signed = true then -1 else IntKind.u64.max) (x.toNat : Int) = ((wn x).toNat : Int) := p0w x
theorem p0x (k : Nat) : bits .and .u64 (k : Int) 63 = ((k % 64 : Nat) : Int) := by
 have h1 : BitVec.ofInt 64 (k : Int) = BitVec.ofNat 64 k := by simp
 have h2 : (BitVec.ofNat 64 k &&& BitVec.ofInt 64 63).toNat = k % 64 := by
  have e : (BitVec.ofInt 64 63).toNat = 2 ^ 6 - 1 := by decide
  rw [BitVec.toNat_and, e, Nat.and_two_pow_sub_one_eq_mod, BitVec.toNat_ofNat]
  omega
 show IntKind.u64.wrap (((BitVec.ofInt 64 (k : Int) &&& BitVec.ofInt 64 63).toNat : Nat) : Int) = _
 rw [h1, h2, IntKind.wrap_u64]
 omega
theorem p0y (x : UInt8) : IntKind.u64.wrap (x.toNat : Int) = ((wid x).toNat : Int) := by
 have := x.toNat_lt
 rw [IntKind.wrap_u64]; simp [wid]; omega
theorem n0W (x : UInt64) : IntKind.u8.wrap (x.toNat : Int) = ((lo8 x).toNat : Int) := by
 rw [IntKind.wrap_u8']; simp [lo8]
theorem i0H (x y : UInt8) : bits .xor .u8 (x.toNat : Int) (y.toNat : Int) = ((bx x y).toNat : Int) := by
 rw [u8_xor_nat _ _ x.toNat_lt y.toNat_lt]; simp [bx]
theorem s0r (x y : UInt8) : bits .and .u8 (x.toNat : Int) (y.toNat : Int) = ((ba x y).toNat : Int) := by
 rw [u8_and_nat _ _ x.toNat_lt y.toNat_lt]; simp [ba]
theorem v0u (x y : UInt8) : bits .or .u8 (x.toNat : Int) (y.toNat : Int) = ((bo x y).toNat : Int) := by
 rw [u8_or_nat _ _ x.toNat_lt y.toNat_lt]; simp [bo]
theorem e0M (k : Nat) : BitVec.ofInt 64 (k : Int) = BitVec.ofNat 64 k := by simp
theorem e0w (n : Nat) (h : n < 9223372036854775808) : IntKind.i64.wrap (n : Int) = (n : Int) := by rw [IntKind.wrap_i64]; omega
theorem s0s (a b : Nat) (ha : a < 9223372036854775808) (hb : b < 9223372036854775808) : a ^^^ b < 9223372036854775808 := Nat.xor_lt_two_pow (n := 63) ha hb
theorem v0v (a b : Nat) (ha : a < 9223372036854775808) (hb : b < 9223372036854775808) : bits .xor .i64 (a : Int) (b : Int) = ((a ^^^ b : Nat) : Int) := by
 show IntKind.i64.wrap (((BitVec.ofInt 64 (a : Int) ^^^ BitVec.ofInt 64 (b : Int)).toNat : Nat) : Int) = _
 rw [e0M, e0M, BitVec.toNat_xor, BitVec.toNat_ofNat, BitVec.toNat_ofNat, Nat.mod_eq_of_lt (by omega), Nat.mod_eq_of_lt (by omega)]
 exact e0w _ (s0s a b ha hb)
theorem p0z (a b : Nat) (ha : a < 9223372036854775808) (hb : b < 9223372036854775808) : bits .and .i64 (a : Int) (b : Int) = ((a &&& b : Nat) : Int) := by
 show IntKind.i64.wrap (((BitVec.ofInt 64 (a : Int) &&& BitVec.ofInt 64 (b : Int)).toNat : Nat) : Int) = _
 rw [e0M, e0M, BitVec.toNat_and, BitVec.toNat_ofNat, BitVec.toNat_ofNat, Nat.mod_eq_of_lt (by omega), Nat.mod_eq_of_lt (by omega)]
 exact e0w _ (Nat.lt_of_le_of_lt Nat.and_le_left ha)
theorem g0w (y : UInt8) : (wid y).toNat = y.toNat := by simp [wid]
theorem x0q (x : UInt64) (y : UInt8) : bits .or .u64 (x.toNat : Int) (y.toNat : Int) = ((wo x (wid y)).toNat : Int) := by rw [← u0E, g0w]
theorem v0w (x : UInt64) (y : UInt8) : bits .xor .u64 (x.toNat : Int) (y.toNat : Int) = ((wx x (wid y)).toNat : Int) := by rw [← l0G, g0w]
theorem v0x (x : UInt8) (yk : IntKind) (k : Nat) : Op.shift .shl .u64 (x.toNat : Int) yk (k : Int) = pure (.int .u64 ((shl (wid x) k).toNat : Int)) := by rw [← l0F, g0w]
theorem s0t (x : UInt64) (k : Nat) : IntKind.u64.wrap ((x.toNat : Int) * 2 ^ k) = ((shl x k).toNat : Int) := by
 rw [IntKind.wrap_u64, j0P]; simp
theorem v0y (x : UInt64) (k : Nat) : (x.toNat : Int) / 2 ^ k = ((shr x k).toNat : Int) := by
 rw [j0O]; simp
attribute [go_sem high] s0t v0y x0q v0w v0x v0r v0s l0F p0v l0G u0E v0t p0w s0q p0x p0y n0W i0H s0r v0u
section
variable {P : Program} {w : World} {ops : Array Oper} {rest : List Oper} {o : Oper} {a : Act} {Q : Exit → Act → World → Prop}
theorem j0Q {x i : Operand} {t : TypeId} (hgd : o.guard = none) (ho : o.op = .index t x i) (ht : P.underlying t = some .string) {s : ByteArray} {ki : IntKind} {j : Int} (hx : a.eval x = .string s) (hi : a.eval i = .int ki j)
  (k : Nat) (hj : j = k) (hk : k < s.size) (y : UInt8) (hy : s.data.toList.getD k 0 = y) (h : wpList P ops Q rest (a.put o.dst (.int .u8 (y.toNat : Int))) w) : wpList P ops Q (o :: rest) a w := by
 refine wpList_plain hgd fun K hK => ?_
 subst hj
 have he : s[k]? = some y := by
  have h1 : s[k]? = some s[k] := getElem?_pos s k hk
  rw [h1]
  congr 1
  rw [← hy, List.getD_eq_getElem?_getD, List.getElem?_eq_getElem (by simpa using hk)]
  simp
  rfl
 have hr : (Instr.index t (.string s) (.int ki (k : Int))).run P w = .ok (.int .u8 (y.toNat : Int)) w := by
  simp [Instr.index, asIntOf, run_underlying ht, he]
 unfold Oper.wp execOp
 simp only [ho, hx, hi, Sem.run_bind, Sem.run_pure, Result.andThen_ok, hr]
 exact hK _ _ h
end
theorem n0X {P : Program} {f : FuncId} {args : Array Value} {w : World} {a n : Nat} {v : Value}
  (h : Calls P f args (w.drewN (a + n)) fun e w' => e = .returned v ∧ w' = w.drewN (a + n)) :
  Calls P f args (w.drewN (a + n)) fun e w'' => e = .returned v ∧ ∃ m, w'' = w.drewN (a + m) :=
 h.mono fun _ _ h => ⟨h.1, n, h.2⟩
end Go.Mv
namespace Go.Mv
open Go.RowKit
variable {P : Program}
theorem Has.setCells {g : Nat} {T : TypeId} : ∀ (cs : List Value) (o : Nat) (L : List Value) (w : World), Has w g L T → o + cs.length ≤ L.length → Has (w.setCells g o cs) g (splice L o cs) T ∧ Fr (One g) w (w.setCells g o cs) ∧ (w.setCells g o cs).heap.size = w.heap.size
 | [], o, L, w, h, _ => ⟨by rw [h0X]; exact h, Fr.refl _ _, rfl⟩
 | v :: cs, o, L, w, h, hl => by
  simp only [List.length_cons] at hl
  obtain ⟨h1, h2, h3⟩ := Has.setCells cs (o + 1) (L.set o v) (w.setCell ⟨g, o, none⟩ v) (h.set o v) (by simp; omega)
  rw [g0u L o v cs (by omega)] at h1
  refine ⟨h1, ((Fr.refl (One g) w).setCell g o none v (fun _ => rfl)).trans h2 (fun _ _ t => t), ?_⟩
  show ((w.setCell ⟨g, o, none⟩ v).setCells g (o + 1) cs).heap.size = _
  rw [h3]; simp [World.setCell]
theorem Has.range {w : World} {g : Nat} {L : List Value} {T : TypeId} (h : Has w g L T) (o : Nat) (cs : List Value) (hcs : (L.drop o).take cs.length = cs) : w.rangeAt g o cs := by
 intro j v hv
 rw [h.get]
 have : j < cs.length := by
  rcases Nat.lt_or_ge j cs.length with k | k
  ·exact k
  ·simp [List.getElem?_eq_none k] at hv
 rw [← hcs, List.getElem?_take, if_pos this, List.getElem?_drop] at hv
 exact hv
theorem Has.there {w : World} {g : Nat} {L : List Value} {T : TypeId} (h : Has w g L T) (o n : Nat) (hn : o + n ≤ L.length) : w.there g o n := by
 intro j hj
 obtain ⟨v, h1, h2⟩ := h.ready (i := o + j) (by omega)
 exact ⟨by rw [h1]; rfl, h2⟩
section
variable {w : World} {ops : Array Oper} {rest : List Oper} {o : Oper} {a : Act} {Q : Exit → Act → World → Prop}
theorem b0E {ty : TypeId} {x : Operand} (hgd : o.guard = none) (ho : o.op = .load ty x) {n : Nat} {e : TypeId} (hu : P.underlying ty = some (.array n e)) {g p : Nat} (hx : a.eval x = .pointer (some ⟨g, p, none⟩))
  {L : List Value} {T : TypeId} (hg : Has w g L T) (cs : List Value) (hcs : (L.drop p).take cs.length = cs) (hi : (P.info? ty).map (·.size) = some cs.length)
  (h : wpList P ops Q rest (a.put o.dst (.agg cs.toArray)) w) : wpList P ops Q (o :: rest) a w :=
 wpList_load_mid hgd ty x ho g p hx cs _ (hg.range p cs hcs) hu rfl hi h
theorem d0Y {ty : TypeId} {x y : Operand} (hgd : o.guard = none) (ho : o.op = .store ty x y) {g p : Nat} (hx : a.eval x = .pointer (some ⟨g, p, none⟩)) {cs : List Value} (hy : a.eval y = .agg cs.toArray)
  {L : List Value} {T : TypeId} (hg : Has w g L T) (hn : p + cs.length ≤ L.length) (hi : (P.info? ty).map (·.size) = some cs.length) (h1 : ∀ v ∈ cs, v.oneCell' = true)
  (h : ∀ w', Has w' g (splice L p cs) T → Fr (One g) w w' → w'.heap.size = w.heap.size → wpList P ops Q rest (a.put o.dst undef) w') : wpList P ops Q (o :: rest) a w := by
 obtain ⟨k1, k2, k3⟩ := Has.setCells cs p L w hg hn
 exact wpList_store_mid hgd ty x y ho g p cs.toArray hx hy (by simpa using hg.there p cs.length hn) (by simpa using hi) (all_oneCell_toArray h1) (by simpa using h _ k1 k2 k3)
end
theorem b0Y (L cs : List Value) (h : cs.length = L.length) : splice L 0 cs = cs := by
 simp [splice, h]
theorem a0q {fn : Func} {p : Tmp} {ty : TypeId} (h : fn.results = #[.cell p ty]) {tmps : Array Value} {w : World} {g : Nat} {L : List Value} {T : TypeId}
  (hp : tmps.getD p undef = .pointer (some ⟨g, 0, none⟩)) (hg : Has w g L T) {n : Nat} {e : TypeId} (hu : P.underlying ty = some (.array n e)) (hi : (P.info? ty).map (·.size) = some L.length) :
  (results fn tmps).run P w = .ok (.agg L.toArray) w := by
 obtain ⟨lo, hi', hh, -⟩ := hg
 exact results_cell_row h tmps w g T L.toArray _ _ hp hh hu rfl (by simpa using hi)
open Mvp in
theorem Has.fillB {w : World} {g : Nat} {T : TypeId} {F I : List UInt8} {k : Nat} (h : Has w g (bs (fill F I k)) T) (hl : F.length = I.length) (hk : k < F.length) : Has (w.setCell ⟨g, k, none⟩ (.int .u8 ((F.getD k 0).toNat : Int))) g (bs (fill F I (k + 1))) T := by
 have := h.set k (.int .u8 ((F.getD k 0).toNat : Int))
 rwa [e0J, f0Y _ _ _ hl hk] at this
section
variable {w : World} {ops : Array Oper} {rest : List Oper} {o : Oper} {a : Act} {Q : Exit → Act → World → Prop}
theorem e0l {e : TypeId} (hgd : o.guard = none) (ho : o.op = .alloc e) {z : Value} (hi : (P.info? e).map (·.zero) = some (some z)) (L : List Value) (hL : z.cells.toList = L)
  (h : ∀ w', Has w' w.heap.size L e → Fr Nob w w' → w'.heap.size = w.heap.size + 1 → wpList P ops Q rest (a.put o.dst (.pointer (some ⟨w.heap.size, 0, none⟩))) w') : wpList P ops Q (o :: rest) a w := by
 refine wpList_plain hgd fun K hK => ?_
 obtain ⟨i, hi1, hz⟩ : ∃ i, P.info? e = some i ∧ i.zero = some z := by simpa using hi
 have hr : (Instr.alloc e true (.tuple #[])).run P w = .ok (.pointer (some ⟨w.heap.size, 0, none⟩)) (w.alloc (.cells z.cells e)) := by
  simp [Instr.alloc, zeroValue, typeInfo, hi1, hz, newVar, newRow]
 unfold Oper.wp execOp
 simp only [ho, Sem.run_bind, Sem.run_pure, Result.andThen_ok, hr]
 refine hK _ _ (h _ ?_ ((Fr.refl _ w).alloc _) (by simp))
 have := Has.new w z.cells e
 rwa [hL] at this
end
section
variable {w : World} {ops : Array Oper} {rest : List Oper} {o : Oper} {a : Act} {Q : Exit → Act → World → Prop}
theorem a0S (k : IntKind) (n y : Nat) (code : BoundsCode) (h : n ≤ y) : (Instr.sliceBound (.int k (n : Int)) y code).run P w = .ok n w := by
 have : ((n : Int) ≤ (y : Int)) := by omega
 simp [Instr.sliceBound, asIntOf, this]
theorem v0z {ty : TypeId} {x lo hi mx : Operand} (hgd : o.guard = none) (ho : o.op = .slice ty x (some lo) (some hi) (some mx)) {n : Nat} {e : TypeId} (hu : P.underlying ty = some (.array n e)) (hsz : (P.info? e).map (·.size) = some 1)
  {g p : Nat} (hx : a.eval x = .pointer (some ⟨g, p, none⟩)) {kl kh km : IntKind} {il ih im : Int} (hl : a.eval lo = .int kl il) (hh : a.eval hi = .int kh ih) (hm : a.eval mx = .int km im)
  (l h m : Nat) (el : il = l) (eh : ih = h) (em : im = m) (h1 : l < m) (h2 : l ≤ h) (h3 : h ≤ m) (h4 : m ≤ n)
  (hK : wpList P ops Q rest (a.put o.dst (.slice (some ⟨g, p + l, none⟩) (h - l) (m - l))) w) : wpList P ops Q (o :: rest) a w := by
 refine wpList_plain hgd fun K hK' => ?_
 obtain ⟨i, hi1, hi2⟩ : ∃ i, P.info? e = some i ∧ i.size = 1 := by simpa using hsz
 subst el eh em
 have hr : (Instr.sliceAt ty (.pointer (some ⟨g, p, none⟩)) (some (.int kl (l : Int))) (some (.int kh (h : Int))) (some (.int km (m : Int)))).run P w = .ok (.slice (some ⟨g, p + l, none⟩) (h - l) (m - l)) w := by
  have hne : ¬ m = l := by omega
  simp [Instr.sliceAt, run_underlying hu, Instr.sliceBounds, a0S, h2, h3, h4, sizeOf, typeInfo, hi1, hi2, hne, d0d, Instr.sureAddr]
 unfold Oper.wp execOp
 simp only [ho, hx, hl, hh, hm, Option.map_some, Sem.run_bind, Sem.run_pure, Result.andThen_ok, hr]
 exact hK' _ _ hK
def c0m (p : Option Addr) (l m : Nat) : Option Addr := if m = l then p else p.map (·.add l)
theorem i0I {w : World} {p : Option Addr} {n : Nat} {vs : List Value} (hr : Rd w p n vs) (l h m : Nat) (h2 : l ≤ h) (h3 : h ≤ m) (h4 : h ≤ n) : Rd w (c0m p l m) (h - l) ((vs.drop l).take (h - l)) := by
 have hlen := hr.len
 refine ⟨by simp; omega, ?_⟩
 rcases Nat.eq_zero_or_pos (h - l) with h0 | h0
 ·exact .inl h0
 ·obtain ⟨b, o, rfl, hc⟩ := hr.at (by omega)
  refine .inr ⟨b, o + l, ?_, hc.sub l (h - l)⟩
  simp [c0m, show ¬ m = l by omega, d0d]
theorem l0H {p : Option Addr} {l m : Nat} {x : Addr} (h : c0m p l m = some x) : ∃ y, p = some y ∧ y.block = x.block := by
 unfold c0m at h
 split at h
 ·exact ⟨x, h, rfl⟩
 ·cases p with
  | none => cases h
  | some y =>
   refine ⟨y, rfl, ?_⟩
   simp only [Option.map_some, Option.some.injEq] at h
   subst h
   unfold Addr.add
   split <;> rfl
theorem p0A {S : Nat → Prop} {p : Option Addr} (h : Off S p) (l m : Nat) : Off S (c0m p l m) := by
 intro x hx
 obtain ⟨y, hy, e⟩ := l0H hx
 rw [← e]; exact h y hy
theorem g0x {ty : TypeId} {x : Operand} {lo hi : Option Operand} (hgd : o.guard = none) (ho : o.op = .slice ty x lo hi none) {e : TypeId} (hu : P.underlying ty = some (.slice e)) (hsz : (P.info? e).map (·.size) = some 1)
  {p : Option Addr} {n c : Nat} (hx : a.eval x = .slice p n c) (l h : Nat) (hl : lo.elim (l = 0) (fun y => ∃ k, a.eval y = .int k (l : Int))) (hh : hi.elim (h = n) (fun y => ∃ k, a.eval y = .int k (h : Int))) (h2 : l ≤ h) (h3 : h ≤ c)
  (hK : wpList P ops Q rest (a.put o.dst (.slice (c0m p l c) (h - l) (c - l))) w) : wpList P ops Q (o :: rest) a w := by
 refine wpList_plain hgd fun K hK' => ?_
 obtain ⟨i, hi1, hi2⟩ : ∃ i, P.info? e = some i ∧ i.size = 1 := by simpa using hsz
 have hr : (Instr.sliceAt ty (.slice p n c) (lo.map a.eval) (hi.map a.eval) none).run P w = .ok (.slice (c0m p l c) (h - l) (c - l)) w := by
  cases lo with
  | none =>
   simp only [Option.elim] at hl
   subst hl
   cases hi with
   | none =>
    simp only [Option.elim] at hh
    subst hh
    simp [Instr.sliceAt, Instr.slice, run_underlying hu, Instr.sliceBounds, sizeOf, typeInfo, hi1, c0m]
   | some y =>
    obtain ⟨k, hk⟩ := hh
    simp [Instr.sliceAt, Instr.slice, run_underlying hu, Instr.sliceBounds, a0S, h3, sizeOf, typeInfo, hi1, c0m, hk]
  | some z =>
   obtain ⟨kz, hkz⟩ := hl
   cases hi with
   | none =>
    simp only [Option.elim] at hh
    subst hh
    simp [Instr.sliceAt, Instr.slice, run_underlying hu, Instr.sliceBounds, a0S, h2, sizeOf, typeInfo, hi1, hi2, c0m, hkz]
   | some y =>
    obtain ⟨k, hk⟩ := hh
    simp [Instr.sliceAt, Instr.slice, run_underlying hu, Instr.sliceBounds, a0S, h2, h3, sizeOf, typeInfo, hi1, hi2, c0m, hk, hkz]
 unfold Oper.wp execOp
 simp only [ho, hx, Option.map_none, Sem.run_bind, Sem.run_pure, Result.andThen_ok, hr]
 exact hK' _ _ hK
theorem p0B {ty : TypeId} {x : Operand} {lo : Option Operand} {hi mx : Operand} (hgd : o.guard = none) (ho : o.op = .slice ty x lo (some hi) (some mx)) {e : TypeId} (hu : P.underlying ty = some (.slice e)) (hsz : (P.info? e).map (·.size) = some 1)
  {p : Option Addr} {n c : Nat} (hx : a.eval x = .slice p n c) (l h m : Nat) (hl : lo.elim (l = 0) (fun y => ∃ k, a.eval y = .int k (l : Int))) {kh km : IntKind} {ih im : Int} (hh : a.eval hi = .int kh ih) (hm : a.eval mx = .int km im) (eh : ih = h) (em : im = m) (h2 : l ≤ h) (h3 : h ≤ m) (h4 : m ≤ c)
  (hK : wpList P ops Q rest (a.put o.dst (.slice (c0m p l m) (h - l) (m - l))) w) : wpList P ops Q (o :: rest) a w := by
 refine wpList_plain hgd fun K hK' => ?_
 obtain ⟨i, hi1, hi2⟩ : ∃ i, P.info? e = some i ∧ i.size = 1 := by simpa using hsz
 subst eh em
 have hr : (Instr.sliceAt ty (.slice p n c) (lo.map a.eval) (some (a.eval hi)) (some (a.eval mx))).run P w = .ok (.slice (c0m p l m) (h - l) (m - l)) w := by
  cases lo with
  | none =>
   simp only [Option.elim] at hl
   subst hl
   simp [Instr.sliceAt, Instr.slice, run_underlying hu, Instr.sliceBounds, a0S, h3, h4, sizeOf, typeInfo, hi1, c0m, hh, hm]
  | some z =>
   obtain ⟨kz, hkz⟩ := hl
   simp [Instr.sliceAt, Instr.slice, run_underlying hu, Instr.sliceBounds, a0S, h2, h3, h4, sizeOf, typeInfo, hi1, hi2, c0m, hkz, hh, hm]
 unfold Oper.wp execOp
 simp only [ho, hx, Option.map_some, Sem.run_bind, Sem.run_pure, Result.andThen_ok, hr]
 exact hK' _ _ hK
end
theorem Rd.lt {w : World} {b o n : Nat} {vs : List Value} (h : Rd w (some ⟨b, o, none⟩) n vs) (hn : 0 < n) : b < w.heap.size := by
 obtain ⟨b', o', he, hc⟩ := h.at hn
 simp only [Option.some.injEq, Addr.mk.injEq] at he
 obtain ⟨rfl, rfl, -⟩ := he
 have := hc.cell (i := 0) (by rw [h.len]; exact hn)
 exact block_lt_of_cell this
theorem n0Y (w : World) (g i : Nat) (v : Value) (b j : Nat) (h : b ≠ g) : (w.setCell ⟨g, i, none⟩ v).cell? ⟨b, j, none⟩ = w.cell? ⟨b, j, none⟩ :=
 World.cell?_of_block (a := ⟨b, j, none⟩) (heap_setCell_other w ⟨g, i, none⟩ b v h)
end Go.Mv
namespace Go.Mv
open Go.RowKit
variable {P : Program}
theorem m0J {w : World} {ops : Array Oper} {rest : List Oper} {o : Oper} {a : Act} {Q : Exit → Act → World → Prop} {t : TypeId} {parts : Array (Nat × Operand)} (hgd : o.guard = none) (ho : o.op = .build t parts) (cells : Array Value)
  (hb : P.built t (parts.map fun (i, x) => (i, a.eval x)).toList = some cells) (h : wpList P ops Q rest (a.put o.dst (.agg cells)) w) : wpList P ops Q (o :: rest) a w := by
 refine wpList_plain hgd fun K hK => ?_
 have hr := run_build (P := P) w t (parts.map fun (i, x) => (i, a.eval x)) cells hb
 unfold Oper.wp execOp
 simp only [ho, Sem.run_bind, Sem.run_pure, Result.andThen_ok, hr]
 exact hK _ _ h
theorem c0c {w : World} {ops : Array Oper} {rest : List Oper} {o : Oper} {a : Act} {Q : Exit → Act → World → Prop} {t : TypeId} (hgd : o.guard = none) (ho : o.op = .build t #[]) (cells : Array Value)
  (hb : P.built t [] = some cells) (h : wpList P ops Q rest (a.put o.dst (.agg cells)) w) : wpList P ops Q (o :: rest) a w :=
 m0J hgd ho cells (by simpa using hb) h
def Old (w : World) (a : Option Addr) : Prop := ∀ x, a = some x → x.block < w.heap.size
theorem Old.grow {w w' : World} {a : Option Addr} (h : Old w a) (hs : w.heap.size ≤ w'.heap.size) : Old w' a := fun x hx => Nat.lt_of_lt_of_le (h x hx) hs
theorem Old.off {w : World} {a : Option Addr} (h : Old w a) {g : Nat} (hg : w.heap.size ≤ g) : Off (One g) a := fun x hx (e : x.block = g) => by have := h x hx; omega
theorem Old.none (w : World) : Old w .none := fun _ h => by cases h
theorem Old.has {w : World} {g : Nat} {L : List Value} {T : TypeId} (h : Has w g L T) (o : Nat) : Old w (some ⟨g, o, .none⟩) := fun x hx => by cases hx; exact h.lt
theorem p0C {w : World} {ops : Array Oper} {rest : List Oper} {o : Oper} {a : Act} {Q : Exit → Act → World → Prop} {e : TypeId} {x : Operand} (hgd : o.guard = none) (ho : o.op = .box e x) {v : Value} (hx : a.eval x = v) (L : List Value) (hL : v.cells.toList = L)
  (h : ∀ w', Has w' w.heap.size L e → Fr Nob w w' → w'.heap.size = w.heap.size + 1 → wpList P ops Q rest (a.put o.dst (.pointer (some ⟨w.heap.size, 0, none⟩))) w') : wpList P ops Q (o :: rest) a w := by
 refine wpList_plain hgd fun K hK => ?_
 have hr : (Instr.box e v).run P w = .ok (.pointer (some ⟨w.heap.size, 0, none⟩)) (w.alloc (.cells v.cells e)) := by
  simp [Instr.box, newVar, newRow]
 unfold Oper.wp execOp
 simp only [ho, hx, Sem.run_bind, Sem.run_pure, Result.andThen_ok, hr]
 refine hK _ _ (h _ ?_ ((Fr.refl _ w).alloc _) (by simp))
 have := Has.new w v.cells e
 rwa [hL] at this
theorem i0J {w : World} {ops : Array Oper} {rest : List Oper} {o : Oper} {a : Act} {Q : Exit → Act → World → Prop} {t e : TypeId} {y0 y1 y2 y3 : Operand} (hgd : o.guard = none) (ho : o.op = .buildSlice t 4 #[(0, y0), (1, y1), (2, y2), (3, y3)])
  (hu : P.underlying t = some (.slice e)) (hi0 : (P.info? e).map (fun i => (i.zero, i.size, i.bytes)) = some (some (.int .u8 0), 1, 1)) (x0 x1 x2 x3 : UInt8)
  (h0 : a.eval y0 = .int .u8 (x0.toNat : Int)) (h1 : a.eval y1 = .int .u8 (x1.toNat : Int)) (h2 : a.eval y2 = .int .u8 (x2.toNat : Int)) (h3 : a.eval y3 = .int .u8 (x3.toNat : Int))
  (h : ∀ w', Has w' w.heap.size (bs [x0, x1, x2, x3]) e → Fr Nob w w' → w'.heap.size = w.heap.size + 1 → wpList P ops Q rest (a.put o.dst (.slice (some ⟨w.heap.size, 0, none⟩) 4 4)) w') : wpList P ops Q (o :: rest) a w := by
 obtain ⟨i, hi, hz⟩ : ∃ i, P.info? e = some i ∧ (i.zero, i.size, i.bytes) = (some (.int .u8 0), 1, 1) := by simpa using hi0
 simp only [Prod.mk.injEq] at hz
 obtain ⟨hz, hsz, hby⟩ := hz
 have hp : ((#[(0, y0), (1, y1), (2, y2), (3, y3)] : Array (Nat × Operand)).map fun (i, x) => (i, a.eval x)).toList = [(0, .int .u8 (x0.toNat : Int)), (1, .int .u8 (x1.toNat : Int)), (2, .int .u8 (x2.toNat : Int)), (3, .int .u8 (x3.toNat : Int))] := by simp [h0, h1, h2, h3]
 have hf : Instr.fill (fun j => some (j * i.size, i.size)) ((Array.range (4 * i.size)).map ((Value.int .u8 0).cells[· % (Value.int .u8 0).cells.size]!)) ((#[(0, y0), (1, y1), (2, y2), (3, y3)] : Array (Nat × Operand)).map fun (i, x) => (i, a.eval x)).toList = some (bs [x0, x1, x2, x3]).toArray := by
  rw [hp, hsz]
  exact Great.fill_flat (bs [x0, x1, x2, x3]) _ (fun v hv => by simp [bs] at hv; rcases hv with rfl | rfl | rfl | rfl <;> rfl) (by simp [bs])
 exact wpList_buildSlice hgd t e 4 _ ho _ i _ hu hi hz (by rw [hsz]; decide) (by rw [hsz]; decide) hf (h _ (Has.new w (bs [x0, x1, x2, x3]).toArray e) ((Fr.refl _ w).alloc _) (by simp))
theorem p0D {w : World} {ops : Array Oper} {rest : List Oper} {o : Oper} {a : Act} {Q : Exit → Act → World → Prop} {t e : TypeId} {y : Operand} (hgd : o.guard = none) (ho : o.op = .buildSlice t 1 #[(0, y)])
  (hu : P.underlying t = some (.slice e)) (hi0 : (P.info? e).map (fun i => (i.zero, i.size, i.bytes)) = some (some (.int .u8 0), 1, 1)) (x0 : UInt8)
  (hy : a.eval y = .int .u8 (x0.toNat : Int))
  (h : ∀ w', Has w' w.heap.size (bs [x0]) e → Fr Nob w w' → w'.heap.size = w.heap.size + 1 → wpList P ops Q rest (a.put o.dst (.slice (some ⟨w.heap.size, 0, none⟩) 1 1)) w') : wpList P ops Q (o :: rest) a w := by
 obtain ⟨i, hi, hz⟩ : ∃ i, P.info? e = some i ∧ (i.zero, i.size, i.bytes) = (some (.int .u8 0), 1, 1) := by simpa using hi0
 simp only [Prod.mk.injEq] at hz
 obtain ⟨hz, hsz, hby⟩ := hz
 have hp : ((#[(0, y)] : Array (Nat × Operand)).map fun (i, x) => (i, a.eval x)).toList = [(0, .int .u8 (x0.toNat : Int))] := by simp [hy]
 have hf : Instr.fill (fun j => some (j * i.size, i.size)) ((Array.range (1 * i.size)).map ((Value.int .u8 0).cells[· % (Value.int .u8 0).cells.size]!)) ((#[(0, y)] : Array (Nat × Operand)).map fun (i, x) => (i, a.eval x)).toList = some (bs [x0]).toArray := by
  rw [hp, hsz]
  exact Great.fill_flat (bs [x0]) _ (fun v hv => by simp [bs] at hv; subst hv; rfl) (by simp [bs])
 exact wpList_buildSlice hgd t e 1 _ ho _ i _ hu hi hz (by rw [hsz]; decide) (by rw [hsz]; decide) hf (h _ (Has.new w (bs [x0]).toArray e) ((Fr.refl _ w).alloc _) (by simp))
theorem Own.cells {w : World} {base : Nat} {T : TypeId} {v : Value} {n : Nat} {L : List Value} (h : Own w base T 1 v n L) (hn : 0 < n) :
  ∃ g o cap, v = .slice (some ⟨g, o, none⟩) n cap ∧ base ≤ g ∧ g < w.heap.size ∧ n ≤ cap ∧ cap ≤ maxLen ∧ (∀ i x, L[i]? = some x → w.cell? ⟨g, o + i, none⟩ = some x) ∧ (∀ i, i < n → w.frozen? ⟨g, o + i, none⟩ = false) ∧
   (∀ i x, i < n → Own (w.setCell ⟨g, o + i, none⟩ x) base T 1 v n (L.set i x)) := by
 obtain ⟨hl, h | ⟨g, o, cap, B, rfl, hb, hg, h1, h2, h3, h4⟩⟩ := h
 ·obtain ⟨_, h0⟩ := h; omega
 ·rw [Nat.mul_one] at h3 h4 hl
  refine ⟨g, o, cap, rfl, hb, hg.lt, h1, h2, ?_, ?_, ?_⟩
  ·intro i x hx
   rw [← h4, List.getElem?_take] at hx
   split at hx
   ·rw [List.getElem?_drop] at hx; exact hg.cell hx
   ·cases hx
  ·intro i hi; exact hg.free _ (by omega)
  ·intro i x hi
   refine ⟨by rw [List.length_set, hl, Nat.mul_one], .inr ⟨g, o, cap, B.set (o + i) x, rfl, hb, hg.set (o + i) x, h1, h2, by rw [List.length_set]; omega, ?_⟩⟩
   rw [Nat.mul_one, ← h4]
   apply List.ext_getElem?
   intro j
   simp only [List.getElem?_take, List.getElem?_drop, List.getElem?_set]
   by_cases hj : j < n
   ·rw [if_pos hj]
    by_cases e : i = j
    ·subst e
     rw [if_pos rfl, if_pos rfl, if_pos (by omega), if_pos (by rw [List.length_take, List.length_drop]; omega)]
    ·rw [if_neg (by omega), if_neg e, if_pos hj]
   ·rw [if_neg hj]
    by_cases e : i = j
    ·omega
    ·rw [if_neg e, if_neg hj]
end Go.Mv
namespace Go.Mv
open Go.RowKit
variable {P : Program}
theorem Own.ne {w : World} {base sz n g : Nat} {T T' : TypeId} {v : Value} {L L' : List Value} (h : Own w base T sz v n L) (hg : Has w g L' T') (hT : T ≠ T') : ¬ c0o v g := by
 intro hv
 obtain ⟨_, ⟨rfl, _⟩ | ⟨g', o, cap, B, rfl, _, hg', _⟩⟩ := h
 ·cases hv
 ·have : g' = g := by simpa [c0o, Value.ownBlock] using hv
  subst this
  obtain ⟨_, _, h1, _⟩ := hg
  obtain ⟨_, _, h2, _⟩ := hg'
  rw [h1] at h2
  simp at h2
  exact hT h2.2.1.symm
end Go.Mv
namespace Go.Mv
open Go.RowKit
variable {P : Program}
structure St (S : Nat → Prop) (w0 w : World) (bl : List (Nat × List Value × TypeId)) : Prop where
 fr : Fr S w0 w
 own : ∀ x ∈ bl, w0.heap.size ≤ x.1 ∨ S x.1
 has : ∀ x ∈ bl, Has w x.1 x.2.1 x.2.2
 ne : bl.Pairwise fun x y => x.1 ≠ y.1
theorem St.start (S : Nat → Prop) (w : World) : St S w w [] := ⟨Fr.refl _ _, by simp, by simp, List.Pairwise.nil⟩
theorem St.at {S : Nat → Prop} {w0 w : World} {bl : List (Nat × List Value × TypeId)} (h : St S w0 w bl) (i : Nat) {g : Nat} {L : List Value} {T : TypeId} (hi : bl[i]? = some (g, L, T)) : Has w g L T :=
 h.has _ (List.mem_of_getElem? hi)
theorem St.neAt {S : Nat → Prop} {w0 w : World} {bl : List (Nat × List Value × TypeId)} (h : St S w0 w bl) {i j : Nat} {x y : Nat × List Value × TypeId} (hi : bl[i]? = some x) (hj : bl[j]? = some y) (hij : i ≠ j) : x.1 ≠ y.1 := by
 obtain ⟨hi1, rfl⟩ := List.getElem?_eq_some_iff.1 hi
 obtain ⟨hj1, rfl⟩ := List.getElem?_eq_some_iff.1 hj
 rcases Nat.lt_or_ge i j with k | k
 ·exact List.pairwise_iff_getElem.1 h.ne i j hi1 hj1 k
 ·exact (List.pairwise_iff_getElem.1 h.ne j i hj1 hi1 (by omega)).symm
theorem St.keep {S : Nat → Prop} {w0 w w' : World} {bl : List (Nat × List Value × TypeId)} (h : St S w0 w bl) (hf : Fr Nob w w') : St S w0 w' bl :=
 ⟨h.fr.same hf, h.own, fun x hx => (h.has x hx).keep hf id, h.ne⟩
theorem St.drew {S : Nat → Prop} {w0 w : World} {bl : List (Nat × List Value × TypeId)} (h : St S w0 w bl) : St S w0 w.drew bl := ⟨h.fr.drew, h.own, h.has, h.ne⟩
theorem St.drewN {S : Nat → Prop} {w0 w : World} {bl : List (Nat × List Value × TypeId)} (h : St S w0 w bl) (n : Nat) : St S w0 (w.drewN n) bl := ⟨h.fr.drewN n, h.own, h.has, h.ne⟩
theorem St.less {S : Nat → Prop} {w0 w : World} {bl bl' : List (Nat × List Value × TypeId)} (h : St S w0 w bl) (hs : bl'.Sublist bl) : St S w0 w bl' :=
 ⟨h.fr, fun x hx => h.own x (hs.subset hx), fun x hx => h.has x (hs.subset hx), h.ne.sublist hs⟩
theorem St.new {S : Nat → Prop} {w0 w w' : World} {bl : List (Nat × List Value × TypeId)} (h : St S w0 w bl) (hf : Fr Nob w w') {g : Nat} {L : List Value} {T : TypeId} (hg : Has w' g L T) (hn : w.heap.size ≤ g) : St S w0 w' (bl ++ [(g, L, T)]) := by
 refine ⟨h.fr.same hf, ?_, ?_, ?_⟩
 ·intro x hx
  rcases List.mem_append.1 hx with hx | hx
  ·exact h.own x hx
  ·simp only [List.mem_singleton] at hx
   subst hx
   exact .inl (Nat.le_trans h.fr.size hn)
 ·intro x hx
  rcases List.mem_append.1 hx with hx | hx
  ·exact (h.has x hx).keep hf id
  ·simp only [List.mem_singleton] at hx
   subst hx
   exact hg
 ·rw [List.pairwise_append]
  refine ⟨h.ne, List.pairwise_singleton _ _, ?_⟩
  intro x hx y hy
  simp only [List.mem_singleton] at hy
  subst hy
  have := (h.has x hx).lt
  show x.1 ≠ g
  omega
theorem St.put {S : Nat → Prop} {w0 w w' : World} {bl : List (Nat × List Value × TypeId)} (h : St S w0 w bl) (i : Nat) {g : Nat} {L L' : List Value} {T : TypeId} (hi : bl[i]? = some (g, L, T)) (hf : Fr (One g) w w') (hg : Has w' g L' T) : St S w0 w' (bl.set i (g, L', T)) := by
 obtain ⟨hi1, hi2⟩ := List.getElem?_eq_some_iff.1 hi
 refine ⟨?_, ?_, ?_, ?_⟩
 ·refine h.fr.trans hf fun j hj hjg => ?_
  have hjg' : j = g := hjg
  subst hjg'
  rcases h.own _ (List.mem_of_getElem? hi) with k | k
  ·have k' : w0.heap.size ≤ j := k
   omega
  ·exact k
 ·intro x hx
  rcases List.mem_or_eq_of_mem_set hx with hx | rfl
  ·exact h.own x hx
  ·exact h.own (g, L, T) (List.mem_of_getElem? hi)
 ·intro x hx
  obtain ⟨j, hj1, hj2⟩ := List.mem_iff_getElem.1 hx
  rw [List.length_set] at hj1
  rw [List.getElem_set] at hj2
  by_cases e : i = j
  ·rw [if_pos e] at hj2; subst hj2; exact hg
  ·rw [if_neg e] at hj2
   subst hj2
   refine (h.has _ (List.getElem_mem hj1)).keep hf fun t => ?_
   exact h.neAt hi (List.getElem?_eq_getElem hj1) e (Eq.symm t)
 ·rw [List.pairwise_iff_getElem]
  intro j k hj hk hjk
  have e := List.pairwise_iff_getElem.1 h.ne j k (by simpa using hj) (by simpa using hk) hjk
  rw [List.getElem_set, List.getElem_set]
  split
  ·rename_i e1; subst e1
   rw [hi2] at e
   split
   ·omega
   ·exact e
  ·split
   ·rename_i e2; subst e2; rw [hi2] at e; exact e
   ·exact e
theorem St.set {S : Nat → Prop} {w0 w : World} {bl : List (Nat × List Value × TypeId)} (h : St S w0 w bl) (i : Nat) {g : Nat} {L : List Value} {T : TypeId} (hi : bl[i]? = some (g, L, T)) (k : Nat) (v : Value) : St S w0 (w.setCell ⟨g, k, none⟩ v) (bl.set i (g, L.set k v, T)) :=
 h.put i hi ((Fr.refl (One g) w).setCell g k none v (fun _ => rfl)) ((h.at i hi).set k v)
theorem St.take {S : Nat → Prop} {w0 w : World} {bl : List (Nat × List Value × TypeId)} (h : St S w0 w bl) {g : Nat} {L : List Value} {T : TypeId} (hg : Has w g L T) (hS : S g) (hn : ∀ x ∈ bl, x.1 ≠ g) : St S w0 w (bl ++ [(g, L, T)]) := by
 refine ⟨h.fr, ?_, ?_, ?_⟩
 ·intro x hx
  rcases List.mem_append.1 hx with hx | hx
  ·exact h.own x hx
  ·simp only [List.mem_singleton] at hx; subst hx; exact .inr hS
 ·intro x hx
  rcases List.mem_append.1 hx with hx | hx
  ·exact h.has x hx
  ·simp only [List.mem_singleton] at hx; subst hx; exact hg
 ·rw [List.pairwise_append]
  refine ⟨h.ne, List.pairwise_singleton _ _, ?_⟩
  intro x hx y hy
  simp only [List.mem_singleton] at hy
  subst hy
  exact hn x hx
theorem St.one {w : World} {g : Nat} {L : List Value} {T : TypeId} (hg : Has w g L T) : St (One g) w w [(g, L, T)] := (St.start (One g) w).take hg rfl (by simp)
section
variable {w w0 : World} {ops : Array Oper} {rest : List Oper} {o : Oper} {a : Act} {Q : Exit → Act → World → Prop} {S : Nat → Prop} {bl : List (Nat × List Value × TypeId)}
theorem a0m (hst : St S w0 w bl) {e : TypeId} {x : Operand} (hgd : o.guard = none) (ho : o.op = .box e x) {v : Value} (hx : a.eval x = v) (L : List Value) (hL : v.cells.toList = L)
  (h : ∀ g w', St S w0 w' (bl ++ [(g, L, e)]) → wpList P ops Q rest (a.put o.dst (.pointer (some ⟨g, 0, none⟩))) w') : wpList P ops Q (o :: rest) a w :=
 p0C hgd ho hx L hL fun w' hg hf _ => h _ w' (hst.new hf hg (Nat.le_refl _))
theorem a0b (hst : St S w0 w bl) {e : TypeId} (hgd : o.guard = none) (ho : o.op = .alloc e) {z : Value} (hi : (P.info? e).map (·.zero) = some (some z)) (L : List Value) (hL : z.cells.toList = L)
  (h : ∀ g w', St S w0 w' (bl ++ [(g, L, e)]) → wpList P ops Q rest (a.put o.dst (.pointer (some ⟨g, 0, none⟩))) w') : wpList P ops Q (o :: rest) a w :=
 e0l hgd ho hi L hL fun w' hg hf _ => h _ w' (hst.new hf hg (Nat.le_refl _))
theorem a0h (hst : St S w0 w bl) (i : Nat) {g : Nat} {L : List Value} {T : TypeId} (hb : bl[i]? = some (g, L, T)) {ty : TypeId} {x : Operand} (hgd : o.guard = none) (ho : o.op = .load ty x) {n : Nat} {e : TypeId} (hu : P.underlying ty = some (.array n e)) (hx : a.eval x = .pointer (some ⟨g, 0, none⟩))
  (hi : (P.info? ty).map (·.size) = some L.length) (h : wpList P ops Q rest (a.put o.dst (.agg L.toArray)) w) : wpList P ops Q (o :: rest) a w :=
 b0E hgd ho hu hx (hst.at i hb) L dZl hi h
theorem a0o (hst : St S w0 w bl) (i : Nat) {g : Nat} {L : List Value} {T : TypeId} (hb : bl[i]? = some (g, L, T)) {ty : TypeId} {x : Operand} (hgd : o.guard = none) (ho : o.op = .load ty x) {d : TypeDesc} (hu : P.underlying ty = some d) (hd : d.isRow = true) (hx : a.eval x = .pointer (some ⟨g, 0, none⟩))
  (hi : (P.info? ty).map (·.size) = some L.length) (h : wpList P ops Q rest (a.put o.dst (.agg L.toArray)) w) : wpList P ops Q (o :: rest) a w :=
 wpList_load_mid hgd ty x ho g 0 hx L _ ((hst.at i hb).range 0 L dZl) hu hd hi h
theorem a0d (hst : St S w0 w bl) (i : Nat) {g : Nat} {L : List Value} {T : TypeId} (hb : bl[i]? = some (g, L, T)) {ty : TypeId} {x y : Operand} (hgd : o.guard = none) (ho : o.op = .store ty x y) (hx : a.eval x = .pointer (some ⟨g, 0, none⟩)) {cs : List Value} (hy : a.eval y = .agg cs.toArray)
  (hn : cs.length = L.length) (hi : (P.info? ty).map (·.size) = some cs.length) (h1 : ∀ v ∈ cs, v.oneCell' = true)
  (h : ∀ w', St S w0 w' (bl.set i (g, cs, T)) → wpList P ops Q rest (a.put o.dst undef) w') : wpList P ops Q (o :: rest) a w :=
 d0Y hgd ho hx hy (hst.at i hb) (by omega) hi h1 fun w' hg hf _ => h w' (hst.put i hb hf (by rwa [b0Y _ _ hn] at hg))
end
end Go.Mv
namespace Mvp
abbrev B64 : Nat := 18446744073709551616
def lw (a i : Nat) : Nat := a / B64 ^ i % B64
def a0J (n a : Nat) : List Nat := (List.range n).map (lw a)
def mix (A B k : Nat) : Nat := A % B64 ^ k + B / B64 ^ k * B64 ^ k
theorem b0F (k : Nat) : 0 < B64 ^ k := Nat.pow_pos (by decide)
theorem c0n (a i : Nat) : lw a i < 18446744073709551616 := Nat.mod_lt _ (by decide)
theorem b0c (n a : Nat) : (a0J n a).length = n := by simp [a0J]
theorem c0d (n a i : Nat) (h : i < n) : (a0J n a)[i]? = some (lw a i) := by simp [a0J, h]
theorem u0F (a : Nat) : a0J 4 a = [lw a 0, lw a 1, lw a 2, lw a 3] := rfl
theorem d0Z (a i k : Nat) (h : i < k) : lw (a % B64 ^ k) i = lw a i := by
 unfold lw
 obtain ⟨j, rfl⟩ : ∃ j, k = i + (1 + j) := ⟨k - i - 1, by omega⟩
 rw [Nat.pow_add, Nat.mod_mul_right_div_self, Nat.pow_add, Nat.pow_one, Nat.mod_mul_right_mod]
theorem b0Z (a k i : Nat) : lw (a / B64 ^ k) i = lw a (k + i) := by
 unfold lw
 rw [Nat.div_div_eq_div_mul, ← Nat.pow_add]
theorem v0A (A B k : Nat) : mix A B k % B64 ^ k = A % B64 ^ k := by
 unfold mix
 rw [Nat.add_mul_mod_self_right, Nat.mod_mod]
theorem v0B (A B k : Nat) : mix A B k / B64 ^ k = B / B64 ^ k := by
 unfold mix
 rw [Nat.add_mul_div_right _ _ (b0F k), Nat.div_eq_of_lt (Nat.mod_lt _ (b0F k)), Nat.zero_add]
theorem f0K (A B k i : Nat) : lw (mix A B k) i = if i < k then lw A i else lw B i := by
 split
 ·rename_i h
  rw [← d0Z _ i k h, v0A, d0Z _ i k h]
 ·rename_i h
  obtain ⟨j, rfl⟩ : ∃ j, i = k + j := ⟨i - k, by omega⟩
  rw [← b0Z, ← b0Z, v0B]
theorem e0a {n a b : Nat} (h : ∀ i, i < n → lw a i = lw b i) : a0J n a = a0J n b := by
 unfold a0J
 apply List.map_congr_left
 intro i hi
 exact h i (List.mem_range.1 hi)
theorem p0E (n A B k : Nat) (h : k < n) : (a0J n (mix A B k)).set k (lw A k) = a0J n (mix A B (k + 1)) := by
 have _h := h
 apply List.ext_getElem?
 intro i
 rw [List.getElem?_set]
 rcases Nat.lt_or_ge i n with hi | hi
 ·rw [c0d _ _ _ hi, c0d _ _ _ hi, f0K, f0K, b0c]
  by_cases e : k = i
  ·subst e; simp [h]
  ·rw [if_neg e]
   congr 1
   by_cases h2 : i < k
   ·rw [if_pos h2, if_pos (by omega)]
   ·rw [if_neg h2, if_neg (by omega)]
 ·rw [List.getElem?_eq_none (by rw [b0c]; exact hi), List.getElem?_eq_none (by rw [b0c]; exact hi)]
  split
  ·rw [b0c, if_neg (by omega)]
  ·rfl
theorem d0f (A B : Nat) : mix A B 0 = B := by simp [mix, Nat.mod_one]
theorem v0C (A B k : Nat) (ha : A < B64 ^ k) (hb : B < B64 ^ k) : mix A B k = A := by
 unfold mix
 rw [Nat.mod_eq_of_lt ha, Nat.div_eq_of_lt hb, Nat.zero_mul, Nat.add_zero]
theorem g0y (A B k : Nat) (h : B < B64 ^ k) : mix A B k = A % B64 ^ k := by
 unfold mix
 rw [Nat.div_eq_of_lt h, Nat.zero_mul, Nat.add_zero]
theorem p0F (n a : Nat) : a0J n (a % B64 ^ n) = a0J n a := e0a fun i hi => d0Z a i n hi
theorem c0N (a k : Nat) : a % B64 ^ (k + 1) = a % B64 ^ k + B64 ^ k * lw a k := by
 unfold lw
 rw [Nat.pow_succ, Nat.mod_mul]
theorem d0G {n a b : Nat} (h : a0J n a = a0J n b) : a % B64 ^ n = b % B64 ^ n := by
 have hw : ∀ i, i < n → lw a i = lw b i := fun i hi => by
  have h1 := c0d n a i hi
  rw [h, c0d n b i hi] at h1
  exact (Option.some.inj h1).symm
 clear h
 induction n with
 | zero => simp [Nat.mod_one]
 | succ k ih => rw [c0N, c0N, ih (fun i hi => hw i (by omega)), hw k (by omega)]
def b0G (a b k : Nat) : Nat := (a % B64 ^ k + b % B64 ^ k) / B64 ^ k
theorem j0R (a b : Nat) : b0G a b 0 = 0 := by simp [b0G, Nat.mod_one]
theorem p0G (a b k : Nat) : b0G a b k ≤ 1 := by
 unfold b0G
 have h := b0F k
 have h1 := Nat.mod_lt a h
 have h2 := Nat.mod_lt b h
 generalize B64 ^ k = W at *
 exact Nat.le_of_lt_succ (Nat.div_lt_of_lt_mul (by omega))
theorem j0S (a b k : Nat) : b0G a b (k + 1) = (lw a k + lw b k + b0G a b k) / 18446744073709551616 := by
 unfold b0G
 rw [c0N, c0N, Nat.pow_succ, ← Nat.div_div_eq_div_mul]
 congr 1
 have e : a % B64 ^ k + B64 ^ k * lw a k + (b % B64 ^ k + B64 ^ k * lw b k) = (a % B64 ^ k + b % B64 ^ k) + B64 ^ k * (lw a k + lw b k) := by rw [Nat.mul_add]; omega
 rw [e, Nat.add_mul_div_left _ _ (b0F k)]
 omega
theorem u0G (a b k : Nat) : lw (a + b) k = (lw a k + lw b k + b0G a b k) % 18446744073709551616 := by
 unfold lw b0G
 have h := b0F k
 have e : a + b = (a % B64 ^ k + b % B64 ^ k) + B64 ^ k * (a / B64 ^ k + b / B64 ^ k) := by
  have h1 := Nat.div_add_mod a (B64 ^ k)
  have h2 := Nat.div_add_mod b (B64 ^ k)
  rw [Nat.mul_add]; omega
 have e2 : (a + b) / B64 ^ k = (a % B64 ^ k + b % B64 ^ k) / B64 ^ k + (a / B64 ^ k + b / B64 ^ k) := by
  conv => lhs; rw [e]
  rw [Nat.add_mul_div_left _ _ h]
 rw [e2]
 generalize (a % B64 ^ k + b % B64 ^ k) / B64 ^ k = x
 generalize a / B64 ^ k = y
 generalize b / B64 ^ k = z
 show (x + (y + z)) % 18446744073709551616 = (y % 18446744073709551616 + z % 18446744073709551616 + x) % 18446744073709551616
 omega
theorem s0u (a b k : Nat) (ha : a < B64 ^ k) (hb : b < B64 ^ k) : b0G a b k = (a + b) / B64 ^ k := by
 unfold b0G; rw [Nat.mod_eq_of_lt ha, Nat.mod_eq_of_lt hb]
def b0t (a b k : Nat) : Nat := if a % B64 ^ k < b % B64 ^ k then 1 else 0
theorem e0N (a b : Nat) : b0t a b 0 = 0 := by simp [b0t, Nat.mod_one]
theorem i0K (a b k : Nat) : b0t a b k ≤ 1 := by unfold b0t; split <;> omega
theorem e0O (a b k : Nat) : b0t a b (k + 1) = if lw a k < lw b k + b0t a b k then 1 else 0 := by
 unfold b0t
 rw [c0N, c0N]
 have h := b0F k
 have h1 := Nat.mod_lt a h
 have h2 := Nat.mod_lt b h
 generalize lw a k = x
 generalize lw b k = y
 generalize a % B64 ^ k = p at *
 generalize b % B64 ^ k = q at *
 generalize B64 ^ k = W at *
 rcases Nat.lt_trichotomy x y with hxy | hxy | hxy
 ·obtain ⟨d, rfl⟩ : ∃ d, y = x + 1 + d := ⟨y - x - 1, by omega⟩
  have e : W * (x + 1 + d) = W * x + W + W * d := by rw [Nat.mul_add, Nat.mul_add, Nat.mul_one]
  rw [e]
  rw [if_pos (by omega), if_pos (by omega)]
 ·subst hxy
  by_cases hpq : p < q
  ·rw [if_pos hpq, if_pos (by omega), if_pos (by omega)]
  ·rw [if_neg hpq, if_neg (by omega), if_neg (by omega)]
 ·obtain ⟨d, rfl⟩ : ∃ d, x = y + 1 + d := ⟨x - y - 1, by omega⟩
  have e : W * (y + 1 + d) = W * y + W + W * d := by rw [Nat.mul_add, Nat.mul_add, Nat.mul_one]
  rw [e]
  rw [if_neg (by omega), if_neg (by split <;> omega)]
theorem m0K (n a b k : Nat) (hb : b < B64 ^ n) (hk : k < n) : lw (a + B64 ^ n - b) k = (lw a k + 18446744073709551616 - lw b k - b0t a b k) % 18446744073709551616 := by
 obtain ⟨j, rfl⟩ : ∃ j, n = k + (1 + j) := ⟨n - k - 1, by omega⟩
 have hW := b0F k
 have hT := b0F j
 have hN : B64 ^ (k + (1 + j)) = B64 ^ k * (B64 * B64 ^ j) := by rw [Nat.pow_add, Nat.pow_add, Nat.pow_one]
 rw [hN] at hb ⊢
 have ha1 := Nat.div_add_mod a (B64 ^ k)
 have hb1 := Nat.div_add_mod b (B64 ^ k)
 have ha2 := Nat.mod_lt a hW
 have hb2 := Nat.mod_lt b hW
 have hbh : b / B64 ^ k < B64 * B64 ^ j := Nat.div_lt_of_lt_mul hb
 unfold lw b0t
 generalize a / B64 ^ k = x at *
 generalize b / B64 ^ k = y at *
 generalize a % B64 ^ k = p at *
 generalize b % B64 ^ k = q at *
 generalize B64 ^ j = T at *
 generalize B64 ^ k = W at *
 have hq : ∃ c, c ≤ 1 ∧ (c = if p < q then 1 else 0) ∧ p + c * W < q + W ∧ q ≤ p + c * W := by
  by_cases h : p < q
  ·exact ⟨1, by omega, by rw [if_pos h], by omega, by omega⟩
  ·exact ⟨0, by omega, by rw [if_neg h], by omega, by omega⟩
 obtain ⟨c, hc1, hc2, hc3, hc4⟩ := hq
 rw [← hc2]
 have hyc : y + c ≤ x + B64 * T := by omega
 have e : (a + W * (B64 * T) - b) / W = x + B64 * T - y - c := by
  have h1 : a + W * (B64 * T) - b = W * (x + B64 * T - y - c) + (p + c * W - q) := by
   have h2 : W * (x + B64 * T - y - c) + W * (y + c) = W * x + W * (B64 * T) := by
    rw [← Nat.mul_add, ← Nat.mul_add]; congr 1; omega
   have h3 : W * (y + c) = W * y + c * W := by rw [Nat.mul_add, Nat.mul_comm W c]
   generalize W * (x + B64 * T - y - c) = u at *
   generalize W * (B64 * T) = v at *
   generalize W * (y + c) = z at *
   omega
  rw [h1, Nat.mul_add_div hW, Nat.div_eq_of_lt (by omega), Nat.add_zero]
 rw [e]
 show (x + 18446744073709551616 * T - y - c) % 18446744073709551616 = (x % 18446744073709551616 + 18446744073709551616 - y % 18446744073709551616 - c) % 18446744073709551616
 have hyc' : y + c ≤ x + 18446744073709551616 * T := hyc
 omega
theorem e0m (a b k : Nat) (ha : a < B64 ^ k) (hb : b < B64 ^ k) : b0t a b k = if a < b then 1 else 0 := by
 unfold b0t; rw [Nat.mod_eq_of_lt ha, Nat.mod_eq_of_lt hb]
def b0q (L x n k : Nat) : Nat := (L % B64 ^ k + x * (n % B64 ^ k)) / B64 ^ k
theorem j0T (L x n : Nat) : b0q L x n 0 = 0 := by simp [b0q, Nat.mod_one]
theorem g0z (L x n k : Nat) (hx : x < 18446744073709551616) : b0q L x n k < 18446744073709551616 := by
 unfold b0q
 have h := b0F k
 have h1 := Nat.mod_lt L h
 have h2 := Nat.mod_lt n h
 have h3 : x * (n % B64 ^ k) ≤ 18446744073709551615 * (n % B64 ^ k) := Nat.mul_le_mul_right _ (by omega)
 generalize B64 ^ k = W at *
 refine Nat.div_lt_of_lt_mul ?_
 omega
theorem e0P (L x n k : Nat) : b0q L x n (k + 1) = (lw L k + x * lw n k + b0q L x n k) / 18446744073709551616 := by
 unfold b0q
 rw [c0N, c0N, Nat.pow_succ, ← Nat.div_div_eq_div_mul]
 congr 1
 have e : L % B64 ^ k + B64 ^ k * lw L k + x * (n % B64 ^ k + B64 ^ k * lw n k) = (L % B64 ^ k + x * (n % B64 ^ k)) + B64 ^ k * (lw L k + x * lw n k) := by
  rw [Nat.mul_add, Nat.mul_add, Nat.mul_left_comm x]; omega
 rw [e, Nat.add_mul_div_left _ _ (b0F k)]
 omega
theorem g0A (L x n k : Nat) : lw (L + x * n) k = (lw L k + x * lw n k + b0q L x n k) % 18446744073709551616 := by
 unfold lw b0q
 have h := b0F k
 have e : L + x * n = (L % B64 ^ k + x * (n % B64 ^ k)) + B64 ^ k * (L / B64 ^ k + x * (n / B64 ^ k)) := by
  have h1 := Nat.div_add_mod L (B64 ^ k)
  have h2 := Nat.div_add_mod n (B64 ^ k)
  have h3 : x * n = x * (B64 ^ k * (n / B64 ^ k)) + x * (n % B64 ^ k) := by rw [← Nat.mul_add, h2]
  have h4 : x * (B64 ^ k * (n / B64 ^ k)) = B64 ^ k * (x * (n / B64 ^ k)) := Nat.mul_left_comm _ _ _
  rw [Nat.mul_add]; omega
 have e2 : (L + x * n) / B64 ^ k = (L % B64 ^ k + x * (n % B64 ^ k)) / B64 ^ k + (L / B64 ^ k + x * (n / B64 ^ k)) := by
  conv => lhs; rw [e]
  rw [Nat.add_mul_div_left _ _ h]
 rw [e2]
 generalize (L % B64 ^ k + x * (n % B64 ^ k)) / B64 ^ k = u
 generalize L / B64 ^ k = y
 generalize n / B64 ^ k = z
 show (u + (y + x * z)) % 18446744073709551616 = (y % 18446744073709551616 + x * (z % 18446744073709551616) + u) % 18446744073709551616
 have e3 : x * (z % 18446744073709551616) % 18446744073709551616 = x * z % 18446744073709551616 := Nat.mul_mod_mod _ _ _
 generalize x * (z % 18446744073709551616) = s at *
 generalize x * z = t at *
 omega
theorem s0v (L x n k : Nat) (hL : L < B64 ^ k) (hn : n < B64 ^ k) : b0q L x n k = (L + x * n) / B64 ^ k := by
 unfold b0q; rw [Nat.mod_eq_of_lt hL, Nat.mod_eq_of_lt hn]
theorem n0Z (p t c : Nat) (hp : p ≤ 18446744073709551615 * 18446744073709551615) (hc : c < 18446744073709551616) :
  (t + (p % 18446744073709551616 + c) % 18446744073709551616) % 18446744073709551616 = (t + p + c) % 18446744073709551616 ∧
  p / 18446744073709551616 + (p % 18446744073709551616 + c) / 18446744073709551616 < 18446744073709551616 ∧
  p / 18446744073709551616 + (p % 18446744073709551616 + c) / 18446744073709551616 + (t + (p % 18446744073709551616 + c) % 18446744073709551616) / 18446744073709551616 = (t + p + c) / 18446744073709551616 := by
 omega
theorem h0Y (p t c : Nat) (hp : p ≤ 18446744073709551615 * 18446744073709551615) (hc : c < 18446744073709551616) :
  ∃ hi lo lo2 c1 t2 c2 : Nat, p / 18446744073709551616 = hi ∧ p % 18446744073709551616 = lo ∧ (lo + c) % 18446744073709551616 = lo2 ∧ (lo + c) / 18446744073709551616 = c1 ∧ hi + c1 < 18446744073709551616 ∧
   (t + lo2) % 18446744073709551616 = t2 ∧ (t + lo2) / 18446744073709551616 = c2 ∧ t2 = (t + p + c) % 18446744073709551616 ∧ hi + c1 + c2 = (t + p + c) / 18446744073709551616 := by
 obtain ⟨h1, h2, h3⟩ := n0Z p t c hp hc
 exact ⟨_, _, _, _, _, _, rfl, rfl, rfl, rfl, h2, rfl, rfl, h1, h3⟩
theorem g0B {x y : Nat} (hx : x < 18446744073709551616) (hy : y < 18446744073709551616) : x * y ≤ 18446744073709551615 * 18446744073709551615 :=
 Nat.mul_le_mul (by omega) (by omega)
theorem g0C (P Q i j : Nat) (h : j < i) : lw (P + B64 ^ i * Q) j = lw P j := by
 rw [← d0Z _ j i h, Nat.add_mul_mod_self_left, d0Z _ j i h]
theorem c0q (P Q i k : Nat) : lw (P + B64 ^ i * Q) (i + k) = lw (P / B64 ^ i + Q) k := by
 rw [← b0Z, Nat.add_mul_div_left _ _ (b0F i)]
theorem c0K (a n i : Nat) (h : a < B64 ^ n) (hi : n ≤ i) : lw a i = 0 := by
 unfold lw
 rw [Nat.div_eq_of_lt (Nat.lt_of_lt_of_le h (Nat.pow_le_pow_right (by decide) hi)), Nat.zero_mod]
theorem f0Z (a b i : Nat) : a % B64 ^ i * b + B64 ^ i * (lw a i * b) = a % B64 ^ (i + 1) * b := by
 rw [c0N, Nat.add_mul, Nat.mul_assoc]
theorem p0H (a b i : Nat) (hb : b < B64 ^ 4) : a % B64 ^ i * b < B64 ^ (i + 4) := by
 have h := Nat.mod_lt a (b0F i)
 rw [Nat.pow_add]
 exact Nat.mul_lt_mul'' h hb
theorem v0D (a b i : Nat) (hb : b < B64 ^ 4) : lw (a % B64 ^ (i + 1) * b) (i + 4) = b0q (a % B64 ^ i * b / B64 ^ i) (lw a i) b 4 := by
 rw [← f0Z, c0q, g0A, c0K b 4 4 hb (Nat.le_refl _), b0Z, c0K _ _ _ (p0H a b i hb) (Nat.le_refl _), Nat.mul_zero, Nat.zero_add]
 exact Nat.mod_eq_of_lt (g0z _ _ _ _ (c0n a i))
theorem v0E (a b i : Nat) (hb : b < B64 ^ 4) : mix (a % B64 ^ (i + 1) * b) (a % B64 ^ i * b) (i + 4 + 1) = a % B64 ^ (i + 1) * b := by
 refine v0C _ _ _ ?_ ?_
 ·have := p0H a b (i + 1) hb
  rwa [show i + 1 + 4 = i + 4 + 1 by omega] at this
 ·refine Nat.lt_trans (p0H a b i hb) (Nat.pow_lt_pow_right (by decide) (by omega))
theorem s0w (a b i k : Nat) : lw (a % B64 ^ i * b) (i + k) = lw (a % B64 ^ i * b / B64 ^ i) k := by rw [b0Z]
theorem v0F (a b i k : Nat) : lw (a % B64 ^ (i + 1) * b) (i + k) = lw (a % B64 ^ i * b / B64 ^ i + lw a i * b) k := by
 rw [← f0Z, c0q]
theorem p0I (a b i : Nat) : mix (a % B64 ^ (i + 1) * b) (a % B64 ^ i * b) (i + 0) = a % B64 ^ i * b := by
 rw [← f0Z, Nat.add_zero]
 generalize a % B64 ^ i * b = V
 unfold mix
 rw [Nat.add_mul_mod_self_left, Nat.mul_comm, Nat.mod_add_div]
theorem s0x (b : Nat) (a : Nat) : a % B64 ^ 0 * b = 0 := by simp [Nat.mod_one]
def a0P (C V : Nat) : Nat := V / B64 ^ 4 * C + V % B64 ^ 4
theorem p0J (P C V : Nat) (h : P + C = B64 ^ 4) : a0P C V % P = V % P := by
 have e : V = a0P C V + P * (V / B64 ^ 4) := by
  have h1 := Nat.div_add_mod V (B64 ^ 4)
  unfold a0P
  rw [← h] at h1 ⊢
  generalize V / (P + C) = q at *
  rw [Nat.add_mul] at h1
  rw [Nat.mul_comm q C]
  omega
 conv => rhs; rw [e]
 rw [Nat.add_mul_mod_self_left]
theorem s0y (C V : Nat) (hC : C < B64 ^ 4) (h : V / B64 ^ 4 ≠ 0) : a0P C V < V := by
 have h1 := Nat.div_add_mod V (B64 ^ 4)
 unfold a0P
 generalize V / B64 ^ 4 = q at *
 have h2 : q * C < B64 ^ 4 * q := by
  rw [Nat.mul_comm]
  exact Nat.mul_lt_mul_of_pos_right hC (by omega)
 omega
theorem x0r (a b c d : Nat) : (a ||| b ||| c ||| d = 0) ↔ (a = 0 ∧ b = 0 ∧ c = 0 ∧ d = 0) := by
 simp [Nat.or_eq_zero_iff, and_assoc]
theorem s0z (V : Nat) (h : V < B64 ^ 8) : (lw V 4 ||| lw V 5 ||| lw V 6 ||| lw V 7 = 0) ↔ V / B64 ^ 4 = 0 := by
 rw [x0r]
 have e : V / B64 ^ 4 < B64 ^ 4 := Nat.div_lt_of_lt_mul (by rw [← Nat.pow_add]; exact h)
 have k0 := b0Z V 4 0
 have k1 := b0Z V 4 1
 have k2 := b0Z V 4 2
 have k3 := b0Z V 4 3
 rw [show 4 + 0 = 4 from rfl] at k0
 rw [show 4 + 1 = 5 from rfl] at k1
 rw [show 4 + 2 = 6 from rfl] at k2
 rw [show 4 + 3 = 7 from rfl] at k3
 rw [← k0, ← k1, ← k2, ← k3]
 generalize V / B64 ^ 4 = D at *
 constructor
 ·rintro ⟨h0, h1, h2, h3⟩
  have hm : D % B64 ^ 4 = 0 % B64 ^ 4 := d0G (e0a fun i hi => by
   have : i = 0 ∨ i = 1 ∨ i = 2 ∨ i = 3 := by omega
   rcases this with rfl | rfl | rfl | rfl
   ·rw [h0]; decide
   ·rw [h1]; decide
   ·rw [h2]; decide
   ·rw [h3]; decide)
  rw [Nat.mod_eq_of_lt e] at hm
  simpa using hm
 ·rintro rfl; decide
theorem o0a (D : Nat) (e : D < B64 ^ 4) : (lw D 0 ||| lw D 1 ||| lw D 2 ||| lw D 3 = 0) ↔ D = 0 := by
 rw [x0r]
 constructor
 ·rintro ⟨h0, h1, h2, h3⟩
  have hm : D % B64 ^ 4 = 0 % B64 ^ 4 := d0G (e0a fun i hi => by
   have : i = 0 ∨ i = 1 ∨ i = 2 ∨ i = 3 := by omega
   rcases this with rfl | rfl | rfl | rfl
   ·rw [h0]; decide
   ·rw [h1]; decide
   ·rw [h2]; decide
   ·rw [h3]; decide)
  rw [Nat.mod_eq_of_lt e] at hm
  simpa using hm
 ·rintro rfl; decide
theorem m0L (V x n : Nat) (hn : n < B64 ^ 4) (hV : V + x * n < B64 ^ 6) (hVV : V < B64 ^ 6) :
  (lw V 4 + b0q V x n 4) % 18446744073709551616 = lw (V + x * n) 4 ∧ lw V 5 + (lw V 4 + b0q V x n 4) / 18446744073709551616 = lw (V + x * n) 5 ∧ lw V 5 + (lw V 4 + b0q V x n 4) / 18446744073709551616 < 18446744073709551616 := by
 have z4 : lw n 4 = 0 := c0K n 4 4 hn (by decide)
 have z5 : lw n 5 = 0 := c0K n 4 5 hn (by decide)
 have h4 := g0A V x n 4
 have h5 := g0A V x n 5
 have c5 := e0P V x n 4
 have c6 := e0P V x n 5
 rw [z4, Nat.mul_zero, Nat.add_zero] at h4 c5
 rw [z5, Nat.mul_zero, Nat.add_zero] at h5 c6
 have hc6 : b0q V x n 6 = 0 := by
  rw [s0v V x n 6 hVV (Nat.lt_trans hn (by decide))]
  exact Nat.div_eq_of_lt hV
 rw [hc6] at c6
 rw [c5] at h5 c6
 try rw [Nat.add_zero] at h5
 try rw [Nat.add_zero] at c6
 have : lw V 5 + (lw V 4 + b0q V x n 4) / 18446744073709551616 < 18446744073709551616 := by omega
 exact ⟨h4.symm, by rw [h5, Nat.mod_eq_of_lt this], this⟩
theorem o0b (V : Nat) : lw V 0 = V % 18446744073709551616 := by simp [lw]
def a0V (M neg b T x : Nat) : Nat := (T + x * b + ((T + x * b) % 18446744073709551616 * neg % 18446744073709551616) * M) / 18446744073709551616
def a0M (M neg b a : Nat) : Nat → Nat
 | 0 => 0
 | k + 1 => a0V M neg b (a0M M neg b a k) (lw a k)
theorem l0I (M neg b T x : Nat) (hneg : (M * neg + 1) % 18446744073709551616 = 0) :
  a0V M neg b T x * 18446744073709551616 = T + x * b + ((T + x * b) % 18446744073709551616 * neg % 18446744073709551616) * M := by
 unfold a0V
 generalize hV : T + x * b = V
 generalize hm : V % 18446744073709551616 * neg % 18446744073709551616 = m
 have key : (V + m * M) % 18446744073709551616 = 0 := by
  have h1 : (m * M) % 18446744073709551616 = (V * neg * M) % 18446744073709551616 := by
   rw [← hm, Nat.mod_mul_mod, Nat.mul_assoc, Nat.mod_mul_mod, ← Nat.mul_assoc]
  have h2 : V + V * neg * M = V * (M * neg + 1) := by rw [Nat.mul_add, Nat.mul_one, Nat.mul_assoc, Nat.mul_comm neg, Nat.add_comm]
  rw [Nat.add_mod, h1, ← Nat.add_mod, h2, Nat.mul_mod, hneg, Nat.mul_zero, Nat.zero_mod]
 have := Nat.div_add_mod (V + m * M) 18446744073709551616
 rw [key, Nat.add_zero, Nat.mul_comm] at this
 exact this
theorem s0A (M neg b T x : Nat) (_ : 0 < M) (hT : T < b + M) (hx : x < 18446744073709551616) : a0V M neg b T x < b + M := by
 unfold a0V
 refine Nat.div_lt_of_lt_mul ?_
 generalize hm : (T + x * b) % 18446744073709551616 * neg % 18446744073709551616 = m
 have hm' : m < 18446744073709551616 := by rw [← hm]; exact Nat.mod_lt _ (by decide)
 have h1 : x * b ≤ 18446744073709551615 * b := Nat.mul_le_mul_right _ (by omega)
 have h2 : m * M ≤ 18446744073709551615 * M := Nat.mul_le_mul_right _ (by omega)
 omega
theorem m0M (M neg b a k : Nat) (hM : 0 < M) : a0M M neg b a k < b + M := by
 induction k with
 | zero => show 0 < _; omega
 | succ k ih => exact s0A _ _ _ _ _ hM ih (c0n a k)
theorem p0K (M neg b a k : Nat) (hneg : (M * neg + 1) % 18446744073709551616 = 0) : a0M M neg b a k * B64 ^ k % M = a % B64 ^ k * b % M := by
 induction k with
 | zero => simp [a0M, Nat.mod_one]
 | succ k ih =>
  show a0V _ _ _ _ _ * B64 ^ (k + 1) % M = _
  rw [← f0Z, Nat.pow_succ, Nat.mul_comm (B64 ^ k), ← Nat.mul_assoc, l0I M neg b _ _ hneg]
  generalize (a0M M neg b a k + lw a k * b) % 18446744073709551616 * neg % 18446744073709551616 = m
  have e : (a0M M neg b a k + lw a k * b + m * M) * B64 ^ k = a0M M neg b a k * B64 ^ k + B64 ^ k * (lw a k * b) + M * (m * B64 ^ k) := by
   rw [Nat.add_mul, Nat.add_mul, Nat.mul_comm (lw a k * b), Nat.mul_right_comm m, Nat.mul_comm (m * B64 ^ k)]
  rw [e, Nat.add_mul_mod_self_left, Nat.add_mod, ih, ← Nat.add_mod]
theorem o0c (M neg Ri a b : Nat) (_ : 0 < M) (ha : a < B64 ^ 4) (hneg : (M * neg + 1) % 18446744073709551616 = 0) (hRi : B64 ^ 4 * Ri % M = 1 % M) :
  a0M M neg b a 4 % M = a * b * Ri % M := by
 have h := p0K M neg b a 4 hneg
 rw [Nat.mod_eq_of_lt ha] at h
 generalize a0M M neg b a 4 = T at *
 have h1 : T * B64 ^ 4 * Ri % M = a * b * Ri % M := by rw [Nat.mul_mod, h, ← Nat.mul_mod]
 rw [← h1, Nat.mul_assoc, Nat.mul_mod, hRi, ← Nat.mul_mod, Nat.mul_one]
theorem o0d (T M : Nat) (h : T < 2 * M) : T % M = if T < M then T else T - M := by
 split
 ·rename_i h'; exact Nat.mod_eq_of_lt h'
 ·rename_i h'; rw [Nat.mod_eq_sub_mod (by omega), Nat.mod_eq_of_lt (by omega)]
end Mvp
namespace Go.Mv
open Go.RowKit Mvp
variable {P : Program}
def us (l : List Nat) : List Value := l.map fun (x : Nat) => .int .u64 (x : Int)
theorem p0L (l : List Nat) : (us l).length = l.length := by simp [us]
theorem x0s (l : List Nat) (i x : Nat) (h : l[i]? = some x) : (us l)[i]? = some (.int .u64 (x : Int)) := by simp [us, h]
theorem j0U (l : List Nat) (i : Nat) (x : Nat) : (us l).set i (.int .u64 (x : Int)) = us (l.set i x) := by simp [us]
theorem x0t (l : List Nat) : ∀ v ∈ us l, v.oneCell' = true := by intro v hv; simp [us] at hv; obtain ⟨x, _, rfl⟩ := hv; rfl
def cw (n a : Nat) : List Value := us (a0J n a)
theorem a0a (n a : Nat) : (cw n a).length = n := by rw [cw, p0L, b0c]
theorem a0D (n a i : Nat) (h : i < n) : (cw n a)[i]? = some (.int .u64 (lw a i : Nat)) := x0s _ _ _ (c0d n a i h)
theorem d0g (n A B k : Nat) (h : k < n) : (cw n (mix A B k)).set k (.int .u64 (lw A k : Nat)) = cw n (mix A B (k + 1)) := by
 rw [cw, j0U, p0E n A B k h, cw]
theorem a0i (n a : Nat) : ∀ v ∈ cw n a, v.oneCell' = true := x0t _
theorem cw_mod (n a : Nat) : cw n (a % B64 ^ n) = cw n a := by rw [cw, p0F, cw]
def i4 (a : Nat) : Value := .agg (cw 4 a).toArray
def i8 (a : Nat) : Value := .agg (cw 8 a).toArray
theorem x0u {n a b : Nat} (h : ∀ i, i < n → lw a i = lw b i) : cw n a = cw n b := by rw [cw, e0a h, cw]
theorem g0a (A B n : Nat) : cw n (mix A B n) = cw n A := x0u fun i hi => by rw [f0K, if_pos hi]
theorem a0f (n : Nat) : cw n 0 = List.replicate n (.int .u64 0) := by
 apply List.ext_getElem?
 intro i
 rcases Nat.lt_or_ge i n with h | h
 ·rw [a0D _ _ _ h, List.getElem?_replicate, if_pos h]; simp [lw]
 ·rw [List.getElem?_eq_none (by rw [a0a]; exact h), List.getElem?_replicate, if_neg (by omega)]
theorem e0b {t e : TypeId} {m : Nat} (ht : P.underlying t = some (.array m e)) (he : P.underlying e = some (.int .u64)) (hi0 : (P.info? e).map (·.size) = some 1) (a k : Nat) (hk : k < m) (ki : IntKind) (w : World) :
  (Instr.index t (.agg (cw m a).toArray) (.int ki (k : Int))).run P w = .ok (.int .u64 (lw a k : Nat)) w := by
 obtain ⟨j, hj, hsz⟩ : ∃ j, P.info? e = some j ∧ j.size = 1 := by simpa using hi0
 have h1 : (0 : Int) ≤ (k : Int) ∧ (k : Int) < (m : Int) := by omega
 have hv := a0D m a k hk
 simp [Instr.index, asIntOf, run_underlying ht, sizeOf, typeInfo, hj, hsz, part, isAgg, run_underlying he, h1, hv]
 intro h; omega
theorem a0Q {fn : Func} {p : Tmp} {ty : TypeId} {s : Tmp} (h : fn.results = #[.cell p ty, .tmp s]) {tmps : Array Value} {w : World} {g : Nat} {L : List Value} {T : TypeId}
  (hp : tmps.getD p undef = .pointer (some ⟨g, 0, none⟩)) (hg : Has w g L T) {n : Nat} {e : TypeId} (hu : P.underlying ty = some (.array n e)) (hi : (P.info? ty).map (·.size) = some L.length) {v : Value} (hv : tmps.getD s undef = v) :
  (results fn tmps).run P w = .ok (.tuple #[.agg L.toArray, v]) w := by
 obtain ⟨lo, hi', hh, -⟩ := hg
 have hp' : tmps[p]?.getD undef = .pointer (some ⟨g, 0, none⟩) := by simpa using hp
 have hv' : tmps[s]?.getD undef = v := by simpa using hv
 simp [results, h, hp', hv', asAddr, run_loadVar_row w g T ty L.toArray _ _ hh hu rfl (by simpa using hi)]
theorem m0N (a : Nat) : i4 a = .agg #[.int .u64 (lw a 0 : Nat), .int .u64 (lw a 1 : Nat), .int .u64 (lw a 2 : Nat), .int .u64 (lw a 3 : Nat)] := rfl
theorem v0G (V : Nat) : i4 (V / B64 ^ 4) = .agg #[.int .u64 (lw V 4 : Nat), .int .u64 (lw V 5 : Nat), .int .u64 (lw V 6 : Nat), .int .u64 (lw V 7 : Nat)] := by
 rw [m0N, b0Z, b0Z, b0Z, b0Z]
theorem u0H (V : Nat) : i4 (V % B64 ^ 4) = i4 V := by rw [i4, cw_mod, ← i4]
theorem m0O (a : Nat) : i8 a = .agg #[.int .u64 (lw a 0 : Nat), .int .u64 (lw a 1 : Nat), .int .u64 (lw a 2 : Nat), .int .u64 (lw a 3 : Nat), .int .u64 (lw a 4 : Nat), .int .u64 (lw a 5 : Nat), .int .u64 (lw a 6 : Nat), .int .u64 (lw a 7 : Nat)] := rfl
theorem p0M (V : Nat) : i8 (V % B64 ^ 4) = .agg #[.int .u64 (lw V 0 : Nat), .int .u64 (lw V 1 : Nat), .int .u64 (lw V 2 : Nat), .int .u64 (lw V 3 : Nat), .int .u64 0, .int .u64 0, .int .u64 0, .int .u64 0] := by
 have ht := fun i (hi : 4 ≤ i) => c0K (V % B64 ^ 4) 4 i (Nat.mod_lt _ (b0F 4)) hi
 rw [m0O, d0Z _ _ _ (by decide), d0Z _ _ _ (by decide), d0Z _ _ _ (by decide), d0Z _ _ _ (by decide), ht 4 (by decide), ht 5 (by decide), ht 6 (by decide), ht 7 (by decide)]
 rfl
def a0u (w : World) (g : Nat) : Nat → Nat → Nat
 | _, 0 => 0
 | i, n + 1 => (intOf ((w.cell? ⟨g, i, none⟩).getD undef)).toNat + B64 * a0u w g (i + 1) n
theorem h0Z {w : World} {g V m : Nat} {T : TypeId} (h : Has w g (cw m V) T) : ∀ (n i : Nat), i + n ≤ m → a0u w g i n = V / B64 ^ i % B64 ^ n
 | 0, i, _ => by simp [a0u, Nat.mod_one]
 | n + 1, i, hi => by
  rw [a0u, h0Z h n (i + 1) (by omega), h.cell (a0D m V i (by omega))]
  show lw V i + B64 * _ = _
  have e1 : B64 ^ (n + 1) = B64 * B64 ^ n := by rw [Nat.pow_succ, Nat.mul_comm]
  rw [e1, Nat.mod_mul, Nat.pow_succ, ← Nat.div_div_eq_div_mul]
  rfl
theorem d0H {w : World} {g V m : Nat} {T : TypeId} (h : Has w g (cw m V) T) (hV : V < B64 ^ m) : a0u w g 0 m = V := by
 rw [h0Z h m 0 (by omega), Nat.pow_zero, Nat.div_one, Nat.mod_eq_of_lt hV]
theorem St.setCells {S : Nat → Prop} {w0 w : World} {bl : List (Nat × List Value × TypeId)} (h : St S w0 w bl) (i : Nat) {g : Nat} {L : List Value} {T : TypeId} (hb : bl[i]? = some (g, L, T)) (cs : List Value) (hn : cs.length = L.length) : St S w0 (w.setCells g 0 cs) (bl.set i (g, cs, T)) := by
 obtain ⟨k1, k2, _⟩ := Has.setCells cs 0 L w (h.at i hb) (by omega)
 rw [b0Y _ _ hn] at k1
 exact h.put i hb k2 k1
theorem s0B (w : World) (a : Nat) (T : TypeId) : Has (w.alloc (.cells #[.int .u64 (lw a 0 : Nat), .int .u64 (lw a 1 : Nat), .int .u64 (lw a 2 : Nat), .int .u64 (lw a 3 : Nat)] T)) w.heap.size (cw 4 a) T := Has.new w _ T
theorem g0D (p a : Nat) (h : a ≤ p) : i4 (p + B64 ^ 4 - a) = i4 (p - a) := by
 rw [← u0H, show p + B64 ^ 4 - a = (p - a) + B64 ^ 4 by omega, Nat.add_mod_right, u0H]
theorem b0g (n : Nat) (h : n < 18446744073709551616) : .agg #[.int .u64 (n : Int), .int .u64 0, .int .u64 0, .int .u64 0] = i4 n := by
 have h0 : lw n 0 = n := by simp only [lw, Nat.pow_zero, Nat.div_one]; exact Nat.mod_eq_of_lt h
 have ht := fun i (hi : 1 ≤ i) => c0K n 1 i (by rw [Nat.pow_one]; exact h) hi
 rw [m0N, h0, ht 1 (by decide), ht 2 (by decide), ht 3 (by decide)]
 rfl
theorem j0V (n : Nat) (h : n < 18446744073709551616) : .agg #[.int .u64 (n : Int), .int .u64 0, .int .u64 0, .int .u64 0, .int .u64 0, .int .u64 0, .int .u64 0, .int .u64 0] = i8 n := by
 have h0 : lw n 0 = n := by simp only [lw, Nat.pow_zero, Nat.div_one]; exact Nat.mod_eq_of_lt h
 have ht := fun i (hi : 1 ≤ i) => c0K n 1 i (by rw [Nat.pow_one]; exact h) hi
 rw [m0O, h0, ht 1 (by decide), ht 2 (by decide), ht 3 (by decide), ht 4 (by decide), ht 5 (by decide), ht 6 (by decide), ht 7 (by decide)]
 rfl
theorem f0u (m n a b : Nat) : ((cw m a ++ cw n b).drop 0).take (cw m a).length = cw m a := by simp
theorem s0C (m n a b : Nat) : ((cw m a ++ cw n b).drop m).take (cw n b).length = cw n b := by
 rw [List.drop_append, a0a, a0a, Nat.sub_self, List.drop_of_length_le (by rw [a0a]; exact Nat.le_refl _), List.nil_append, List.drop_zero, List.take_of_length_le (by rw [a0a]; exact Nat.le_refl _)]
end Go.Mv
namespace Go.Proofs.YtemcankmggmgoaaGreatDoor
section
open Go.RowKit Go.Mv Mvp
def Tryz.lays264_ren : Go.Shelf.Ren := ⟨fun | 264 => 93 | n => n, fun | 46 => 70 | 53 => 23 | n => n, fun | n => n⟩
theorem Tryz.lays264 : Go.Proofs.Lays.n264 Tryz.prog Tryz.lays264_ren := {
 mixed := by kernel_rfl
 f264 := Tryz.func93.trans (congrArg some (by kernel_rfl))
 t46 := Tryz.underlying70
 a46 := Tryz.isAgg70
 z46 := Tryz.sizeOf70
 v46 := Tryz.zeroValue70
 t53 := Tryz.underlying23
 a53 := Tryz.isAgg23
 z53 := Tryz.sizeOf23
 v53 := Tryz.zeroValue23 }
theorem g0E (x y c : Nat) (hc : c ≤ 1) (w : World) : (callFunc 94 #[.int .u64 x, .int .u64 y, .int .u64 c]).run Tryz.prog w =
      .ok (.value (.tuple #[.int .u64 (((x + y + c) % 18446744073709551616 : Nat) : Int), .int .u64 (((x + y + c) / 18446744073709551616 : Nat) : Int)])) w := by
  rw [run_callFunc_extern Tryz.func94 (by kernel_rfl) (by kernel_rfl) (by kernel_rfl) (e := add64Entry) (by kernel_rfl), run_add64 x y c (by omega) (by omega) (by omega) (by omega)]
  simp only [Result.andThen]
  congr 5 <;> omega
theorem d0q (x y s c : Nat) (h1 : (x + y) % 18446744073709551616 = s) (h2 : (x + y) / 18446744073709551616 = c) (w : World) : (callFunc 94 #[.int .u64 x, .int .u64 y, .int .u64 0]).run Tryz.prog w =
      .ok (.value (.tuple #[.int .u64 (s : Int), .int .u64 (c : Int)])) w := by
  have h := g0E x y 0 (by omega) w
  rw [Nat.add_zero, h1, h2] at h
  exact h
theorem e0Q (x y b : Nat) (hb : b ≤ 1) (w : World) : (callFunc 92 #[.int .u64 x, .int .u64 y, .int .u64 b]).run Tryz.prog w =
      .ok (.value (.tuple #[.int .u64 (((x + 18446744073709551616 - y - b) % 18446744073709551616 : Nat) : Int), .int .u64 ((if x < y + b then 1 else 0 : Nat) : Int)])) w := by
  rw [run_callFunc_extern Tryz.func92 (by kernel_rfl) (by kernel_rfl) (by kernel_rfl) (e := sub64Entry) (by kernel_rfl), run_sub64 x y b hb]
  rfl
theorem j0W (x y : Nat) (hx : x < 18446744073709551616) (hy : y < 18446744073709551616) (w : World) :
  Calls Tryz.prog 93 #[.int .u64 x, .int .u64 y] w fun e w' => e = .returned (.tuple #[.int .u64 ((x * y / 18446744073709551616 : Nat) : Int), .int .u64 ((x * y % 18446744073709551616 : Nat) : Int)]) ∧ w = w' :=
 (Any.bits_Mul64 Tryz.lays264 x y hx hy w).mono fun _ _ h => ⟨h.1, h.2.symm⟩
theorem c0x : (Tryz.prog.info? 23).map (·.size) = some 1 := by kernel_rfl
end
section
open Go.RowKit Go.Mv Mvp
attribute [local irreducible] a0J lw mix cw b0t b0G b0q
theorem c0T (a b : Nat) (w : World) (hb : b < B64 ^ 4) :
  Calls Tryz.prog 96 #[i4 a, i4 b] w fun e w' => e = .returned (.tuple #[i4 (a + B64 ^ 4 - b), .int .u64 (b0t a b 4 : Nat)]) ∧ Fr Nob w w' := by
 have HB := qH hb; clear hb
 have st0 := St.start Nob w
 go_enter Tryz.func96, Tryz.ntmps96
 go_wp2_with (with_reducible refine wSk 2 ?_)
 refine a0m st0 rfl rfl rfl (cw 4 a) rfl ?_
 intro g2 w1 st1
 clear st0
 go_wp2_with (with_reducible refine wSk 3 ?_)
 refine a0m st1 rfl rfl rfl (cw 4 b) rfl ?_
 intro g3 w2 st2
 clear st1
 go_wp2_with (with_reducible refine wSk 4 ?_)
 refine a0b st2 rfl rfl (z := zAd) (by kernel_rfl) (cw 4 0) (by rw [a0f]; rfl) ?_
 intro g4 w3 st3
 clear st2
 go_wp2
 go_loopw [5, 7] (fun c i wr => ∃ k : Nat, k ≤ 4 ∧ i = .int .i64 (k : Int) ∧ c = .int .u64 (b0t a b k : Nat) ∧ St Nob w wr [(g2, cw 4 a, 72), (g3, cw 4 b, 72), (g4, cw 4 (mix (a + B64 ^ 4 - b) 0 k), 72)]) (fun _ i _ => 4 - (intOf i).toNat)
 case atStart => exact ⟨0, by omega, rfl, by rw [e0N]; rfl, by rw [d0f]; exact st3⟩
 case round =>
  obtain ⟨k, hk, rfl, rfl, st⟩ := hrel
  clear st3
  by_cases hlt : k < 4
  ·have hltI : (k : Int) < 4 := by omega
   have c1 := (st.at 0 rfl).cell (a0D 4 a k hlt)
   have c2 := (st.at 1 rfl).cell (a0D 4 b k hlt)
   obtain ⟨v3, c3, f3⟩ := (st.at 2 rfl).ready (i := k) (by rw [a0a]; exact hlt)
   have e1 := fun wx => e0Q (lw a k) (lw b k) (b0t a b k) (i0K a b k) wx
   go_wp2
   go_region
   all_goals
    go_wp2
    go_roundw
    case rel =>
     have h1 := st.set 2 rfl k (.int .u64 (lw (a + B64 ^ 4 - b) k : Nat))
     rw [d0g _ _ _ _ hlt, m0K 4 a b k HB.out hlt] at h1
     exact ⟨k + 1, by omega, by go_num, by rw [e0O], h1.drew⟩
    case measure => simp [intOf]; omega
  ·have hge : ¬ ((k : Int) < 4) := by omega
   have hk4 : k = 4 := by omega
   have HK := qH hk4; clear hk4
   go_wp2_with (with_reducible refine wSk 24 ?_)
   refine a0h st 2 rfl rfl rfl Tryz.underlying72 rfl (by rw [a0a]; kernel_rfl) ?_
   go_wp2_with (with_reducible refine wSn ?_)
   refine a0d st 2 rfl rfl rfl rfl rfl (by simp only [a0a]) (by rw [a0a]; kernel_rfl) (a0i _ _) ?_
   intro w5 st5
   clear st
   have hd5 := st5.at 2 rfl
   rw [HK.out, g0y _ _ _ (by first | decide | assumption | exact HA.out), cw_mod] at hd5
   have hf5 := st5.fr
   clear st5
   go_wp2
   exact bodyPost_ret (a0Q rfl rfl hd5 Tryz.underlying72 (by rw [a0a]; kernel_rfl) rfl) rfl ⟨by rw [HK.out]; rfl, hf5⟩
theorem e0R (a b : Nat) (w : World) :
  Calls Tryz.prog 116 #[i4 a, i4 b] w fun e w' => e = .returned (.tuple #[i4 (a + b), .int .u64 (b0G a b 4 : Nat)]) ∧ Fr Nob w w' := by
 have st0 := St.start Nob w
 go_enter Tryz.func116, Tryz.ntmps116
 go_wp2_with (with_reducible refine wSk 2 ?_)
 refine a0m st0 rfl rfl rfl (cw 4 a) rfl ?_
 intro g2 w1 st1
 clear st0
 go_wp2_with (with_reducible refine wSk 3 ?_)
 refine a0m st1 rfl rfl rfl (cw 4 b) rfl ?_
 intro g3 w2 st2
 clear st1
 go_wp2_with (with_reducible refine wSk 4 ?_)
 refine a0b st2 rfl rfl (z := zAd) (by kernel_rfl) (cw 4 0) (by rw [a0f]; rfl) ?_
 intro g4 w3 st3
 clear st2
 go_wp2
 go_loopw [5, 7] (fun c i wr => ∃ k : Nat, k ≤ 4 ∧ i = .int .i64 (k : Int) ∧ c = .int .u64 (b0G a b k : Nat) ∧ St Nob w wr [(g2, cw 4 a, 72), (g3, cw 4 b, 72), (g4, cw 4 (mix (a + b) 0 k), 72)]) (fun _ i _ => 4 - (intOf i).toNat)
 case atStart => exact ⟨0, by omega, rfl, by rw [j0R]; rfl, by rw [d0f]; exact st3⟩
 case round =>
  obtain ⟨k, hk, rfl, rfl, st⟩ := hrel
  clear st3
  by_cases hlt : k < 4
  ·have hltI : (k : Int) < 4 := by omega
   have c1 := (st.at 0 rfl).cell (a0D 4 a k hlt)
   have c2 := (st.at 1 rfl).cell (a0D 4 b k hlt)
   obtain ⟨v3, c3, f3⟩ := (st.at 2 rfl).ready (i := k) (by rw [a0a]; exact hlt)
   have e1 := fun wx => g0E (lw a k) (lw b k) (b0G a b k) (p0G a b k) wx
   go_wp2
   go_region
   all_goals
    go_wp2
    go_roundw
    case rel =>
     have h1 := st.set 2 rfl k (.int .u64 (lw (a + b) k : Nat))
     rw [d0g _ _ _ _ hlt, u0G a b k] at h1
     exact ⟨k + 1, by omega, by go_num, by rw [j0S]; go_num, h1.drew⟩
    case measure => simp [intOf]; omega
  ·have hge : ¬ ((k : Int) < 4) := by omega
   have hk4 : k = 4 := by omega
   have HK := qH hk4; clear hk4
   go_wp2_with (with_reducible refine wSk 24 ?_)
   refine a0h st 2 rfl rfl rfl Tryz.underlying72 rfl (by rw [a0a]; kernel_rfl) ?_
   go_wp2_with (with_reducible refine wSn ?_)
   refine a0d st 2 rfl rfl rfl rfl rfl (by simp only [a0a]) (by rw [a0a]; kernel_rfl) (a0i _ _) ?_
   intro w5 st5
   clear st
   have hd5 := st5.at 2 rfl
   rw [HK.out, g0y _ _ _ (by first | decide | assumption | exact HA.out), cw_mod] at hd5
   have hf5 := st5.fr
   clear st5
   go_wp2
   exact bodyPost_ret (a0Q rfl rfl hd5 Tryz.underlying72 (by rw [a0a]; kernel_rfl) rfl) rfl ⟨by rw [HK.out]; rfl, hf5⟩
theorem g0b (a b : Nat) (w : World) (hb : b < B64 ^ 4) :
  Calls Tryz.prog 86 #[i4 a, i4 b] w fun e w' => e = .returned (.tuple #[i4 (a + B64 ^ 4 - b), .int .u64 (b0t a b 4 : Nat)]) ∧ Fr Nob w w' := by
 have HB := qH hb; clear hb
 have st0 := St.start Nob w
 go_enter Tryz.func86, Tryz.ntmps86
 go_wp2_with (with_reducible refine wSk 2 ?_)
 refine a0m st0 rfl rfl rfl (cw 4 a) rfl ?_
 intro g2 w1 st1
 clear st0
 go_wp2_with (with_reducible refine wSk 3 ?_)
 refine a0m st1 rfl rfl rfl (cw 4 b) rfl ?_
 intro g3 w2 st2
 clear st1
 go_wp2_with (with_reducible refine wSk 4 ?_)
 refine a0b st2 rfl rfl (z := zAd) (by kernel_rfl) (cw 4 0) (by rw [a0f]; rfl) ?_
 intro g4 w3 st3
 clear st2
 go_wp2_with (with_reducible refine wSk 6 ?_)
 refine a0b st3 rfl rfl (z := zAd) (by kernel_rfl) (cw 4 0) (by rw [a0f]; rfl) ?_
 intro g6 w4 st4
 clear st3
 go_wp2
 go_loopw [7, 8] (fun c i wr => ∃ k : Nat, k ≤ 4 ∧ i = .int .i64 (k : Int) ∧ c = .int .u64 (b0t a b k : Nat) ∧ St Nob w wr [(g2, cw 4 a, 50), (g3, cw 4 b, 50), (g4, cw 4 0, 50), (g6, cw 4 (mix (a + B64 ^ 4 - b) 0 k), 50)]) (fun _ i _ => 4 - (intOf i).toNat)
 case atStart => exact ⟨0, by omega, rfl, by rw [e0N]; rfl, by rw [d0f]; exact st4⟩
 case round =>
  obtain ⟨k, hk, rfl, rfl, st⟩ := hrel
  clear st4
  by_cases hlt : k < 4
  ·have hltI : (k : Int) < 4 := by omega
   have c1 := (st.at 0 rfl).cell (a0D 4 a k hlt)
   have c2 := (st.at 1 rfl).cell (a0D 4 b k hlt)
   obtain ⟨v3, c3, f3⟩ := (st.at 3 rfl).ready (i := k) (by rw [a0a]; exact hlt)
   have e1 := fun wx => e0Q (lw a k) (lw b k) (b0t a b k) (i0K a b k) wx
   go_wp2
   go_region
   all_goals
    go_wp2
    go_roundw
    case rel =>
     have h1 := st.set 3 rfl k (.int .u64 (lw (a + B64 ^ 4 - b) k : Nat))
     rw [d0g _ _ _ _ hlt, m0K 4 a b k HB.out hlt] at h1
     exact ⟨k + 1, by omega, by go_num, by rw [e0O], h1.drew⟩
    case measure => simp [intOf]; omega
  ·have hge : ¬ ((k : Int) < 4) := by omega
   have hk4 : k = 4 := by omega
   have HK := qH hk4; clear hk4
   go_wp2_with (with_reducible refine wSk 26 ?_)
   refine a0h st 3 rfl rfl rfl Tryz.underlying50 rfl (by rw [a0a]; kernel_rfl) ?_
   go_wp2_with (with_reducible refine wSn ?_)
   refine a0d st 2 rfl rfl rfl rfl rfl (by simp only [a0a]) (by rw [a0a]; kernel_rfl) (a0i _ _) ?_
   intro w5 st5
   clear st
   have hd5 := st5.at 2 rfl
   rw [HK.out, g0y _ _ _ (by first | decide | assumption | exact HA.out), cw_mod] at hd5
   have hf5 := st5.fr
   clear st5
   go_wp2
   exact bodyPost_ret (a0Q rfl rfl hd5 Tryz.underlying50 (by rw [a0a]; kernel_rfl) rfl) rfl ⟨by rw [HK.out]; rfl, hf5⟩
theorem g0F (a b : Nat) (w : World) :
  Calls Tryz.prog 64 #[i8 a, i8 b] w fun e w' => e = .returned (i8 (a + b)) ∧ Fr Nob w w' := by
 have st0 := St.start Nob w
 go_enter Tryz.func64, Tryz.ntmps64
 go_wp2_with (with_reducible refine wSk 2 ?_)
 refine a0m st0 rfl rfl rfl (cw 8 a) rfl ?_
 intro g2 w1 st1
 clear st0
 go_wp2_with (with_reducible refine wSk 3 ?_)
 refine a0m st1 rfl rfl rfl (cw 8 b) rfl ?_
 intro g3 w2 st2
 clear st1
 go_wp2_with (with_reducible refine wSk 4 ?_)
 refine a0b st2 rfl rfl (z := .agg #[.int .u64 0, .int .u64 0, .int .u64 0, .int .u64 0, .int .u64 0, .int .u64 0, .int .u64 0, .int .u64 0]) (by kernel_rfl) (cw 8 0) (by rw [a0f]; rfl) ?_
 intro g4 w3 st3
 clear st2
 go_wp2
 go_loopw [5, 6] (fun c i wr => ∃ k : Nat, k ≤ 8 ∧ i = .int .i64 (k : Int) ∧ c = .int .u64 (b0G a b k : Nat) ∧ St Nob w wr [(g2, cw 8 (mix (a + b) a k), 106), (g3, cw 8 b, 106), (g4, cw 8 0, 106)]) (fun _ i _ => 8 - (intOf i).toNat)
 case atStart => exact ⟨0, by omega, rfl, by rw [j0R]; rfl, by rw [d0f]; exact st3⟩
 case round =>
  obtain ⟨k, hk, rfl, rfl, st⟩ := hrel
  clear st3
  by_cases hlt : k < 8
  ·have hltI : (k : Int) < 8 := by omega
   have c1 : wr.cell? ⟨g2, k, none⟩ = some (.int .u64 (lw a k : Nat)) := by have h := (st.at 0 rfl).cell (a0D 8 (mix (a + b) a k) k hlt); rwa [f0K, if_neg (Nat.lt_irrefl k)] at h
   have c2 := (st.at 1 rfl).cell (a0D 8 b k hlt)
   have f3 := (st.at 0 rfl).free k (by rw [a0a]; exact hlt)
   have e1 := fun wx => g0E (lw a k) (lw b k) (b0G a b k) (p0G a b k) wx
   go_wp2
   go_region
   all_goals
    go_wp2
    go_roundw
    case rel =>
     have h1 := st.set 0 rfl k (.int .u64 (lw (a + b) k : Nat))
     rw [d0g _ _ _ _ hlt, u0G a b k] at h1
     exact ⟨k + 1, by omega, by go_num, by rw [j0S]; go_num, h1.drew⟩
    case measure => simp [intOf]; omega
  ·have hge : ¬ ((k : Int) < 8) := by omega
   have hk4 : k = 8 := by omega
   have HK := qH hk4; clear hk4
   go_wp2_with (with_reducible refine wSk 24 ?_)
   refine a0h st 0 rfl rfl rfl Tryz.underlying106 rfl (by rw [a0a]; kernel_rfl) ?_
   go_wp2_with (with_reducible refine wSn ?_)
   refine a0d st 2 rfl rfl rfl rfl rfl (by simp only [a0a]) (by rw [a0a]; kernel_rfl) (a0i _ _) ?_
   intro w5 st5
   clear st
   have hd5 := st5.at 2 rfl
   rw [HK.out, g0a] at hd5
   have hf5 := st5.fr
   clear st5
   go_wp2
   exact bodyPost_ret (a0q rfl rfl hd5 Tryz.underlying106 (by rw [a0a]; kernel_rfl)) rfl ⟨rfl, hf5⟩
end
section
open Go.RowKit Go.Mv Mvp
attribute [local irreducible] a0J lw mix cw b0t b0G b0q
theorem m0P (gt V x n top : Nat) (T : TypeId) (w : World) (ht : Has w gt (cw 6 V) T) (hx : x < 18446744073709551616) (_ : top < 18446744073709551616) :
  Calls Tryz.prog 105 #[.pointer (some ⟨gt, 0, none⟩), .int .u64 (x : Int), i4 n, .int .u64 (top : Int)] w fun e w' =>
   e = .returned (.tuple #[.int .u64 (((top + b0q V x n 4) % 18446744073709551616 : Nat) : Int), .int .u64 (((top + b0q V x n 4) / 18446744073709551616 : Nat) : Int)]) ∧
   Has w' gt (cw 6 (mix (V + x * n) V 4)) T ∧ Fr (One gt) w w' := by
 have st0 := St.one ht
 clear ht
 have HX := qH hx
 go_enter Tryz.func105, Tryz.ntmps105
 go_wp2_with (with_reducible refine wSk 6 ?_)
 refine a0m st0 rfl rfl rfl (cw 4 n) rfl ?_
 intro gn w1 st1
 clear st0
 go_wp2_with (with_reducible refine wSk 16 ?_)
 refine a0h st1 1 rfl rfl rfl Tryz.underlying72 rfl (by rw [a0a]; kernel_rfl) ?_
 go_wp2
 go_loopw [10, 17] (fun c i wr => ∃ k : Nat, k ≤ 4 ∧ i = .int .i64 (k : Int) ∧ c = .int .u64 (b0q V x n k : Nat) ∧ St (One gt) w wr [(gt, cw 6 (mix (V + x * n) V k), T)]) (fun _ i _ => 4 - (intOf i).toNat)
 case atStart => exact ⟨0, by omega, rfl, by rw [j0T]; rfl, by rw [d0f]; exact st1.less (by simp)⟩
 case round =>
  obtain ⟨k, hk, rfl, rfl, st⟩ := hrel
  clear st1
  have hcm := g0z V x n k HX.out
  by_cases hlt : k < 4
  ·have hltI : (k : Int) < 4 := by omega
   have e0 := fun wx => e0b (P := Tryz.prog) Tryz.underlying72 Tryz.underlying23 c0x n k hlt .i64 wx
   have hp := g0B HX.out (c0n n k)
   have hms := e0P V x n k
   have hlm := g0A V x n k
   have hms2 := g0z V x n (k + 1) HX.out
   obtain ⟨hi, lo, lo2, c1, t2, c2, r1, r2, r3, r4, r5, r6, r7, r8, r9⟩ := h0Y (x * lw n k) (lw V k) (b0q V x n k) hp hcm
   rw [← r8] at hlm
   rw [← r9] at hms
   rw [hms] at hms2
   have hmul := fun wx => j0W x (lw n k) HX.out (c0n n k) wx
   rw [r1, r2] at hmul
   have e2 := fun wx => d0q lo (b0q V x n k) lo2 c1 r3 r4 wx
   have e3 := fun wx => d0q (lw V k) lo2 t2 c2 r6 r7 wx
   obtain ⟨v3, c3, f3⟩ := (st.at 0 rfl).ready (i := k) (by rw [a0a]; omega)
   have c1' : wr.cell? ⟨gt, k, none⟩ = some (.int .u64 (lw V k : Nat)) := by have h := (st.at 0 rfl).cell (a0D 6 (mix (V + x * n) V k) k (by omega)); rwa [f0K, if_neg (Nat.lt_irrefl k)] at h
   clear c3 hp r1 r2 r3 r4 r6 r7 r8 r9
   have HMUL := qH hmul; clear hmul
   have HMS := qH hms; clear hms
   have HLM := qH hlm; clear hlm
   go_wp2_with fail
   refine (HMUL.out _).mono ?_
   rintro e' w' ⟨rfl, rfl⟩
   go_wp2_with fail
   go_region
   all_goals
    go_wp2
    go_roundw
    case rel =>
     have h1 := st.set 0 rfl k (.int .u64 (lw (V + x * n) k : Nat))
     rw [d0g _ _ _ _ (by omega), HLM.out] at h1
     exact ⟨k + 1, by omega, by go_num, by rw [HMS.out]; go_num, h1.drew⟩
    case measure => simp [intOf]; omega
  ·have hge : ¬ ((k : Int) < 4) := by omega
   have hk4 : k = 4 := by omega
   have HK := qH hk4; clear hk4
   have e2 := fun wx => d0q top (b0q V x n k) _ _ rfl rfl wx
   go_wp2
   go_ret2
   rw [← HK.out]
   exact ⟨rfl, st.at 0 rfl, st.fr⟩
end
section
open Go.RowKit Go.Mv Mvp
attribute [local irreducible] a0J lw mix cw b0t b0G b0q
theorem e0c (a b : Nat) (w : World) (ha : a < B64 ^ 4) (hb : b < B64 ^ 4) :
  Calls Tryz.prog 62 #[i4 a, i4 b] w fun e w' => e = .returned (i8 (a * b)) ∧ Fr Nob w w' := by
 have HA := qH ha; clear ha
 have HB := qH hb; clear hb
 have st0 := St.start Nob w
 go_enter Tryz.func62, Tryz.ntmps62
 go_wp2_with (with_reducible refine wSk 2 ?_)
 refine a0m st0 rfl rfl rfl (cw 4 a) rfl ?_
 intro g2 w1 st1
 clear st0
 go_wp2_with (with_reducible refine wSk 3 ?_)
 refine a0m st1 rfl rfl rfl (cw 4 b) rfl ?_
 intro g3 w2 st2
 clear st1
 go_wp2_with (with_reducible refine wSk 4 ?_)
 refine a0b st2 rfl rfl (z := .agg #[.int .u64 0, .int .u64 0, .int .u64 0, .int .u64 0, .int .u64 0, .int .u64 0, .int .u64 0, .int .u64 0]) (by kernel_rfl) (cw 8 0) (by rw [a0f]; rfl) ?_
 intro g4 w3 st3
 clear st2
 go_wp2_with (with_reducible refine wSk 5 ?_)
 refine a0b st3 rfl rfl (z := .agg #[.int .u64 0, .int .u64 0, .int .u64 0, .int .u64 0, .int .u64 0, .int .u64 0, .int .u64 0, .int .u64 0]) (by kernel_rfl) (cw 8 0) (by rw [a0f]; rfl) ?_
 intro g5 w4 st4
 clear st3
 go_wp2
 go_loopw [6] (fun i wr => ∃ I : Nat, I ≤ 4 ∧ i = .int .i64 (I : Int) ∧ St Nob w wr [(g2, cw 4 a, 50), (g3, cw 4 b, 50), (g4, cw 8 0, 106), (g5, cw 8 (a % B64 ^ I * b), 106)]) (fun i _ => 4 - (intOf i).toNat)
 case atStart => exact ⟨0, by omega, rfl, by rw [s0x]; exact st4⟩
 case round =>
  obtain ⟨I, hI, rfl, st⟩ := hrel
  clear st4
  by_cases hlt : I < 4
  ·have hltI : (I : Int) < 4 := by omega
   obtain ⟨wo, rfl⟩ : ∃ wo : World, wo = wr := ⟨_, rfl⟩
   have htop := v0D a b I HB.out
   have hall := v0E a b I HB.out
   have hnew := v0F a b I
   have hst := p0I a b I
   have hword := s0w a b I
   generalize hP : a % B64 ^ I * b = V at *
   have HP := qH hP; clear hP
   have HTOP := qH htop; clear htop
   have HALL := qH hall; clear hall
   have HST := qH hst; clear hst
   have HNEW := qH hnew; clear hnew
   have HWORD := qH hword; clear hword
   go_wp2
   go_loopw [7, 8] (fun c i wr => ∃ k : Nat, k ≤ 4 ∧ i = .int .i64 (k : Int) ∧ c = .int .u64 (b0q (V / B64 ^ I) (lw a I) b k : Nat) ∧ St Nob w wr [(g2, cw 4 a, 50), (g3, cw 4 b, 50), (g4, cw 8 0, 106), (g5, cw 8 (mix (a % B64 ^ (I + 1) * b) V (I + k)), 106)]) (fun _ i _ => 4 - (intOf i).toNat)
   case atStart =>
    exact ⟨0, by omega, rfl, by rw [j0T]; rfl, by rw [HST.out]; exact st⟩
   case round =>
    obtain ⟨k, hk, rfl, rfl, stk⟩ := hrel
    clear st
    have hx := c0n a I
    have hcm := g0z (V / B64 ^ I) (lw a I) b k hx
    by_cases hltk : k < 4
    ·have hltK : (k : Int) < 4 := by omega
     have hp := g0B hx (c0n b k)
     have hms := e0P (V / B64 ^ I) (lw a I) b k
     have hlm := g0A (V / B64 ^ I) (lw a I) b k
     have hms2 := g0z (V / B64 ^ I) (lw a I) b (k + 1) hx
     obtain ⟨hi, lo, lo2, c1, t2, c2, r1, r2, r3, r4, r5, r6, r7, r8, r9⟩ := h0Y (lw a I * lw b k) (lw (V / B64 ^ I) k) (b0q (V / B64 ^ I) (lw a I) b k) hp hcm
     rw [← r8, ← HNEW.out] at hlm
     rw [← r9] at hms
     rw [hms] at hms2
     have hmul := fun wx => j0W (lw a I) (lw b k) hx (c0n b k) wx
     rw [r1, r2] at hmul
     have e2 := fun wx => d0q lo (b0q (V / B64 ^ I) (lw a I) b k) lo2 c1 r3 r4 wx
     have e3 := fun wx => d0q (lw (V / B64 ^ I) k) lo2 t2 c2 r6 r7 wx
     have ca := (stk.at 0 rfl).cell (a0D 4 a I hlt)
     have cb := (stk.at 1 rfl).cell (a0D 4 b k hltk)
     obtain ⟨v3, c3, f3⟩ := (stk.at 3 rfl).ready (i := I + k) (by rw [a0a]; omega)
     have c1' : wr.cell? ⟨g5, I + k, none⟩ = some (.int .u64 (lw (V / B64 ^ I) k : Nat)) := by
      have h := (stk.at 3 rfl).cell (a0D 8 (mix (a % B64 ^ (I + 1) * b) V (I + k)) (I + k) (by omega)); rwa [f0K, if_neg (Nat.lt_irrefl _), HWORD.out] at h
     clear c3 hp r1 r2 r3 r4 r6 r7 r8 r9
     have HMUL := qH hmul; clear hmul
     have HMS := qH hms; clear hms
     have HLM := qH hlm; clear hlm
     go_wp2_with fail
     go_quiet ((go_at_call 93; refine Calls.quiet_of_same ((HMUL.out _).mono fun _ _ h => ⟨h.1, h.2.symm⟩)))
     go_wp2_with fail
     go_roundw
     case rel =>
      have h1 := (stk.drewN nq).set 3 rfl (I + k) (.int .u64 (lw (a % B64 ^ (I + 1) * b) (I + k) : Nat))
      rw [d0g _ _ _ _ (by omega), HLM.out] at h1
      exact ⟨k + 1, by omega, by go_num, by rw [HMS.out]; go_num, h1⟩
     case measure => simp [intOf]; omega
    ·have hge : ¬ ((k : Int) < 4) := by omega
     have hk4 : k = 4 := by omega
     have HK := qH hk4; clear hk4
     obtain ⟨v3, c3, f3⟩ := (stk.at 3 rfl).ready (i := I + 4) (by rw [a0a]; omega)
     go_wp2
     go_roundw
     case rel =>
      have h1 := stk.set 3 rfl (I + 4) (.int .u64 (b0q (V / B64 ^ I) (lw a I) b k : Nat))
      have h2 : (cw 8 (mix (a % B64 ^ (I + 1) * b) V (I + k))).set (I + 4) (.int .u64 (b0q (V / B64 ^ I) (lw a I) b k : Nat)) = cw 8 (a % B64 ^ (I + 1) * b) := by
       rw [HK.out, ← HTOP.out, d0g _ _ _ _ (by omega), HALL.out]
      rw [h2] at h1
      exact ⟨I + 1, by omega, by go_num, h1⟩
     case measure => simp [intOf]; omega
  ·have hge : ¬ ((I : Int) < 4) := by omega
   have hk4 : I = 4 := by omega
   have HK := qH hk4; clear hk4
   go_wp2_with (with_reducible refine wSk 60 ?_)
   refine a0h st 3 rfl rfl rfl Tryz.underlying106 rfl (by rw [a0a]; kernel_rfl) ?_
   go_wp2_with (with_reducible refine wSn ?_)
   refine a0d st 2 rfl rfl rfl rfl rfl (by simp only [a0a]) (by rw [a0a]; kernel_rfl) (a0i _ _) ?_
   intro w5 st5
   clear st
   have hd5 := st5.at 2 rfl
   rw [HK.out, Nat.mod_eq_of_lt HA.out] at hd5
   have hf5 := st5.fr
   clear st5
   go_wp2
   exact bodyPost_ret (a0q rfl rfl hd5 Tryz.underlying106 (by rw [a0a]; kernel_rfl)) rfl ⟨rfl, hf5⟩
end
end Go.Proofs.YtemcankmggmgoaaGreatDoor
namespace Go.Mv
open Go.RowKit
section
variable {P : Program} {ops : Array Oper} {md : Region.Mode} {Q : Exit → Act → World → Prop} {S : World → Prop}
def i0a (P : Program) (md : Region.Mode) (ops : Array Oper) (Q : Exit → Act → World → Prop) (S : World → Prop) (n g : Nat) (tl : List Oper) : Nat → Array Bool → Act → World → Prop
 | 0, listed, a, w => Region.seqB md ops g n listed = true ∧ wpList P ops Q tl a w
 | f + 1, listed, a, w =>
  Region.ready md ops listed ≠ [] ∧ ∀ i ∈ Region.ready md ops listed, i < n ∧ wpOp P ops Q i (fun a' w' => S w' ∧ i0a P md ops Q S n g tl f (listed.setIfInBounds i true) a' w') a w
theorem f0v {n : Nat} {tl : List Oper} (hl : ∀ j, tl[j]? = ops[n + j]?) : ∀ (f : Nat) (listed : Array Bool) (a : Act) (w : World), i0a P md ops Q S n tl.length tl f listed a w → wpAny P md ops Q (f + tl.length) listed a w
 | 0, listed, a, w, h => by rw [Nat.zero_add]; exact wpAny_of_seq tl n listed a w hl h.1 h.2
 | f + 1, listed, a, w, h => by
  rw [show f + 1 + tl.length = (f + tl.length) + 1 by omega]
  exact ⟨fun h0 => absurd h0 h.1, fun i hi => wpOp_mono (fun a' w' h' => f0v hl f _ a' w' h'.2) (h.2 i hi).2⟩
theorem f0L {n g i : Nat} {oi : Oper} {v : Value} {tl : List Oper} (hi : ops[i]? = some oi) (hsel : ∀ (j : Nat) (o : Oper) cs b, ops[j]? = some o → o.op ≠ .select cs b)
  (hQ : ∀ c a w, Q (.panic c) (a.put oi.dst v) w → Q (.panic c) a w)
  (hs : Region.sinkB md ops n = true) (hc : Region.chainB md ops n = true) (hn : n < ops.size) (hin : i < n) :
  ∀ (f : Nat) (listed : Array Bool) (a : Act) (w : World), HeadInv md ops n listed →
   (∀ j oj, ops[j]? = some oj → j ≠ i → listed.getD j true = false → (∀ e ∈ oj.after, Region.binds md e = true → e.on ≠ i) → oi.apart ops oj = true) →
   i ∈ Region.ready md ops listed → YieldsIf P ops S oi v a → S w →
   i0a P md ops Q S n g tl f (listed.setIfInBounds i true) (a.put oi.dst v) w → i0a P md ops Q S n g tl (f + 1) listed a w := by
 intro f
 induction f with
 | zero =>
  intro listed a w inv _ hr hy hS H
  have hun := (mem_ready.1 hr).1
  refine ⟨fun h => (by rw [h] at hr; cases hr), fun j hj => ?_⟩
  have hjn : j < n := by
   rcases Nat.lt_or_ge j n with h | h
   ·exact h
   ·exact absurd hj (tail_waits hs hc hn inv _ i rfl hin hun j h)
  refine ⟨hjn, ?_⟩
  by_cases hji : j = i
  ·subst hji; exact hy.wpOp hi hS ⟨hS, H⟩
  ·have := seqB_ready H.1 j (ready_mono hj hji)
   omega
 | succ f ih =>
  intro listed a w inv hfree hr hy hS H
  have hun := (mem_ready.1 hr).1
  refine ⟨fun h => (by rw [h] at hr; cases hr), fun j hj => ?_⟩
  have hjn : j < n := by
   rcases Nat.lt_or_ge j n with h | h
   ·exact h
   ·exact absurd hj (tail_waits hs hc hn inv _ i rfl hin hun j h)
  refine ⟨hjn, ?_⟩
  by_cases hji : j = i
  ·subst hji; exact hy.wpOp hi hS ⟨hS, H⟩
  ·have h1 := (H.2 j (ready_mono hj hji)).2
   obtain ⟨hjun, oj, hoj, hall⟩ := mem_ready.1 hj
   have hnot : ∀ e ∈ oj.after, Region.binds md e = true → e.on ≠ i := fun e he hb heq => by
    have h1 := hall e he hb
    rw [heq, getD_both hun] at h1
    cases h1
   have h2 := wpOp_putIf hoj (hfree j oj hoj hji hjun hnot) (fun cs b => hsel i oi cs b hi) (fun cs b => hsel j oj cs b hoj) hQ hy h1
   have hfree' : ∀ k ok, ops[k]? = some ok → k ≠ i → (listed.setIfInBounds j true).getD k true = false →
     (∀ e ∈ ok.after, Region.binds md e = true → e.on ≠ i) → oi.apart ops ok = true := fun k ok hk hki hun hno => by
    refine hfree k ok hk hki ?_ hno
    by_cases hjk : j = k
    ·subst hjk; exact hjun
    ·rw [getD_set_ne true hjk] at hun; exact hun
   refine wpOp_mono (fun a' w' h3 => ⟨h3.2.1, ih (listed.setIfInBounds j true) a' w' (inv.set hj hjn) hfree' (ready_mono hr (Ne.symm hji)) h3.1 h3.2.1 ?_⟩) h2
   rw [Array.setIfInBounds_comm _ _ hji]
   exact h3.2.2
def g0G (P : Program) (ops : Array Oper) (Q : Exit → Act → World → Prop) (S : World → Prop) (tl : List Oper) : List (Nat × Bool) → Act → World → Prop
 | [], a, w => wpList P ops Q tl a w
 | (i, true) :: r, a, w => ∃ o v, ops[i]? = some o ∧ YieldsIf P ops S o v a ∧ g0G P ops Q S tl r (a.put o.dst v) w
 | (i, false) :: r, a, w => ∃ o, ops[i]? = some o ∧ o.guard = none ∧ o.wp P a w (fun a' w' => S w' ∧ g0G P ops Q S tl r a' w') Q
def o0e (md : Region.Mode) (ops : Array Oper) (n g : Nat) : List (Nat × Bool) → Array Bool → Bool
 | [], listed => Region.seqB md ops g n listed
 | (i, true) :: r, listed => decide (i < n) && (Region.ready md ops listed).contains i && Region.free md ops listed i && o0e md ops n g r (listed.setIfInBounds i true)
 | (i, false) :: r, listed => decide (i < n) && decide (Region.ready md ops listed = [i]) && o0e md ops n g r (listed.setIfInBounds i true)
theorem d0I {n g : Nat} {tl : List Oper} (hsel : Region.noSelect ops = true) (hs : Region.sinkB md ops n = true) (hc : Region.chainB md ops n = true) (hn : n < ops.size)
  (hQ : ∀ c (d : Option Tmp) v a w, Q (.panic c) (Act.put a d v) w → Q (.panic c) a w) :
  ∀ (s : List (Nat × Bool)) (listed : Array Bool) (a : Act) (w : World), HeadInv md ops n listed → o0e md ops n g s listed = true → S w → g0G P ops Q S tl s a w → i0a P md ops Q S n g tl s.length listed a w
 | [], listed, a, w, _, hB, _, h => ⟨hB, h⟩
 | (i, true) :: r, listed, a, w, inv, hB, hS, h => by
  obtain ⟨o, v, ho, hy, hK⟩ := h
  simp only [o0e, Bool.and_eq_true, decide_eq_true_eq] at hB
  obtain ⟨⟨⟨hin, hr⟩, hf⟩, hB'⟩ := hB
  have hr' : i ∈ Region.ready md ops listed := by simpa using hr
  exact f0L ho (Region.noSelect_spec hsel) (fun c a w => hQ c o.dst v a w) hs hc hn hin r.length listed a w inv (Region.free_spec ho hf) hr' hy hS
   (d0I hsel hs hc hn hQ r _ _ w (inv.set hr' hin) hB' hS hK)
 | (i, false) :: r, listed, a, w, inv, hB, hS, h => by
  obtain ⟨o, ho, hg, hK⟩ := h
  simp only [o0e, Bool.and_eq_true, decide_eq_true_eq] at hB
  obtain ⟨⟨hin, hr⟩, hB'⟩ := hB
  have hr' : i ∈ Region.ready md ops listed := by rw [hr]; simp
  refine ⟨by rw [hr]; simp, fun j hj => ?_⟩
  rw [hr] at hj
  have hj' : j = i := by simpa using hj
  subst hj'
  refine ⟨hin, ?_⟩
  unfold wpOp
  simp only [ho]
  rw [if_pos (by simp [Region.wanted, hg])]
  exact .inl (Oper.wp_mono (fun a' w' h' => ⟨h'.1, d0I hsel hs hc hn hQ r _ a' w' (inv.set hr' hin) hB' h'.1 h'.2⟩) hK)
def u0I (ops : Array Oper) (n : Nat) (s : List (Nat × Bool)) : Bool :=
 Region.noSelect ops && decide (n < ops.size) && decide (s.length = n) && Region.sinkB .any ops n && Region.chainB .any ops n && o0e .any ops n (ops.size - n) s (Array.replicate ops.size false)
theorem b0O {id : Nat} {a : Act} {w : World} {l : List Oper} (S : World → Prop) (n : Nat) (s : List (Nat × Bool)) (hm : P.follows .mixedOrders = true) (hB : u0I l.toArray n s = true)
  (hS : S w.drew) (hQ : ∀ c (d : Option Tmp) v a w, Q (.panic c) (Act.put a d v) w → Q (.panic c) a w)
  (h : g0G P l.toArray Q S (l.drop n) s a w.drew) : (Code.region id l.toArray true).wp P Q a w := by
 simp only [u0I, Bool.and_eq_true, decide_eq_true_eq] at hB
 obtain ⟨⟨⟨⟨⟨hsel, hn⟩, hlen⟩, hs⟩, hc⟩, hseq⟩ := hB
 have inv0 : HeadInv .any l.toArray n (Array.replicate l.toArray.size false) :=
  ⟨by simp, fun j oj _ hl => (by rw [getD_replicate_false] at hl; cases hl), fun t _ ht => getD_in (by simpa using ht) (getD_replicate_false _ _)⟩
 have hdl : (l.drop n).length = l.toArray.size - n := by simp
 rw [← hdl] at hseq
 have H := d0I (md := .any) (g := (l.drop n).length) (tl := l.drop n) hsel hs hc hn hQ s _ a w.drew inv0 hseq hS h
 refine wp_region_any hm ?_
 have := f0v (md := .any) (n := n) (tl := l.drop n) (fun j => by simp [List.getElem?_drop]) _ _ _ _ H
 rw [hlen, hdl, show n + (l.toArray.size - n) = l.toArray.size by omega] at this
 exact this
variable {l tl : List Oper} {i : Nat} {r : List (Nat × Bool)} {a : Act} {w : World} {o : Oper}
theorem f0w (h : wpList P ops Q tl a w) : g0G P ops Q S tl [] a w := h
theorem a0B (ho : l[i]? = some o) (hg : o.guard = none) {v : Value} (hv : ∀ wx, S wx → (execOp a.eval o).run P wx = .ok (.value v) wx) (h : g0G P l.toArray Q S tl r (a.put o.dst v) w) : g0G P l.toArray Q S tl ((i, true) :: r) a w :=
 ⟨o, v, by simpa using ho, .inl ⟨by simp [Region.wanted, hg], hv⟩, h⟩
theorem d0l (ho : l[i]? = some o) (hg : o.guard = none) (h : o.wp P a w (fun a' w' => S w' ∧ g0G P l.toArray Q S tl r a' w') Q) : g0G P l.toArray Q S tl ((i, false) :: r) a w :=
 ⟨o, by simpa using ho, hg, h⟩
theorem c0U (ho : l[i]? = some o) (hg : o.guard = none) {ty : TypeId} {x : Operand} (hop : o.op = .load ty x) {g p : Nat} (hx : a.eval x = .pointer (some ⟨g, p, none⟩)) (cs : List Value) (hS : ∀ wx, S wx → wx.rangeAt g p cs)
  {d : TypeDesc} (hu : P.underlying ty = some d) (hd : d.isRow = true) (hi : (P.info? ty).map (·.size) = some cs.length) (h : g0G P l.toArray Q S tl r (a.put o.dst (.agg cs.toArray)) w) : g0G P l.toArray Q S tl ((i, true) :: r) a w :=
 ⟨o, _, by simpa using ho, yieldsIf_load_mid (by simp [Region.wanted, hg]) ty x hop g p hx cs d hS hu hd hi, h⟩
end
theorem St.rangeL {S : Nat → Prop} {w0 w : World} {bl : List (Nat × List Value × TypeId)} (h : St S w0 w bl) (i : Nat) {g : Nat} {L : List Value} {T : TypeId} (hb : bl[i]? = some (g, L, T)) (o : Nat) (cs : List Value) (hcs : (L.drop o).take cs.length = cs) : w.rangeAt g o cs := (h.at i hb).range o cs hcs
end Go.Mv
theorem clL : (∀ (a : Go.Act) (d : Nat) (v : Go.Value), a.put (some d) v = { a with tmps := a.tmps.setIfInBounds d v }) ∧ (∀ (a : Go.Act) (v : Go.Value), a.put none v = a) ∧ (∀ (l : List Go.Value) (i : Nat) (x : Go.Value), l.toArray.setIfInBounds i x = (l.set i x).toArray) ∧ (∀ (x y : Go.Value) (l : List Go.Value), (x :: l).set 0 y = y :: l) ∧ (∀ (x y : Go.Value) (l : List Go.Value) (i : Nat), (x :: l).set (i + 1) y = x :: l.set i y) :=
 ⟨fun _ _ _ => rfl, fun _ _ => rfl, fun _ _ _ => by simp, fun _ _ _ => rfl, fun _ _ _ _ => rfl⟩
namespace Go.Proofs.YtemcankmggmgoaaGreatDoor
open Go.RowKit Go.Mv Mvp
attribute [local irreducible] a0J lw mix cw b0t b0G b0q a0P a0u
def fv (p : Nat) : Value := .agg (cw 4 p ++ cw 4 (B64 ^ 4 - p)).toArray
theorem d0r : (Tryz.prog.info? 50).map (·.size) = some 4 := by kernel_rfl
theorem p0N : (Tryz.prog.info? 106).map (·.size) = some 8 := by kernel_rfl
theorem i0L (p V0 : Nat) (w : World) (hp0 : 0 < p) (hp : p < B64 ^ 4) (hV0 : V0 < B64 ^ 8) :
  Calls Tryz.prog 63 #[fv p, i8 V0] w fun e w' => e = .returned (i4 (V0 % p)) ∧ Fr Nob w w' := by
 have HP := qH hp; clear hp
 have HP0 := qH hp0; clear hp0
 have HV0 := qH hV0; clear hV0
 have st0 := St.start Nob w
 go_enter Tryz.func63, Tryz.ntmps63
 go_wp2_with (with_reducible refine wSk 2 ?_)
 refine a0m st0 rfl rfl rfl (cw 4 p ++ cw 4 (B64 ^ 4 - p)) rfl ?_
 intro g2 w1 st1
 clear st0
 go_wp2_with (with_reducible refine wSk 3 ?_)
 refine a0m st1 rfl rfl rfl (cw 8 V0) rfl ?_
 intro g3 w2 st2
 clear st1
 go_wp2_with (with_reducible refine wSk 4 ?_)
 refine a0b st2 rfl rfl (z := zAd) (by kernel_rfl) (cw 4 0) (by rw [a0f]; rfl) ?_
 intro g4 w3 st3
 clear st2
 go_wp2
 go_frame
 go_loopw [8] (fun _ wr => ∃ V : Nat, V < B64 ^ 8 ∧ V % p = V0 % p ∧ St Nob w wr [(g2, cw 4 p ++ cw 4 (B64 ^ 4 - p), 66), (g3, cw 8 V, 106), (g4, cw 4 0, 50)]) (fun _ wr => a0u wr g3 0 8)
 case atStart => exact ⟨V0, HV0.out, rfl, st3⟩
 case round =>
  obtain ⟨V, hV, hVm, st⟩ := hrel
  clear st3
  have HV := qH hV; clear hV
  have HVM := qH hVm; clear hVm
  have c0 := (st.at 1 rfl).cell (a0D 8 V 0 (by decide))
  have c1 := (st.at 1 rfl).cell (a0D 8 V 1 (by decide))
  have c2 := (st.at 1 rfl).cell (a0D 8 V 2 (by decide))
  have c3 := (st.at 1 rfl).cell (a0D 8 V 3 (by decide))
  have c4 := (st.at 1 rfl).cell (a0D 8 V 4 (by decide))
  have c5 := (st.at 1 rfl).cell (a0D 8 V 5 (by decide))
  have c6 := (st.at 1 rfl).cell (a0D 8 V 6 (by decide))
  have c7 := (st.at 1 rfl).cell (a0D 8 V 7 (by decide))
  have l4 := c0n V 4
  have l5 := c0n V 5
  have l6 := c0n V 6
  have l7 := c0n V 7
  have o1 := bits_or_u64_nat _ _ l4 l5
  have o2 := bits_or_u64_nat _ _ (Nat.or_lt_two_pow (n := 64) l4 l5) l6
  have o3 := bits_or_u64_nat _ _ (Nat.or_lt_two_pow (n := 64) (Nat.or_lt_two_pow (n := 64) l4 l5) l6) l7
  have htz := s0z V HV.out
  generalize hor : (lw V 4 ||| lw V 5 ||| lw V 6 ||| lw V 7) = o at *
  have HOR := qH hor; clear hor
  clear l4 l5 l6 l7
  by_cases hz : o = 0
  ·have hb : ((o : Int) != 0) = false := by subst hz; rfl
   have hD := htz.1 hz
   clear htz hz
   have HD := qH hD; clear hD
   have hV4 : V < B64 ^ 4 := by
    have h1 := Nat.div_add_mod V (B64 ^ 4)
    rw [HD.out, Nat.mul_zero, Nat.zero_add] at h1
    rw [← h1]; exact Nat.mod_lt _ (b0F 4)
   have HV4 := qH hV4; clear hV4
   go_wp2_with fail
   clear c0 c1 c2 c3 c4 c5 c6 c7 o1 o2 o3 hb
   have st5 := st.new ((Fr.refl Nob wr).alloc (Obj.cells #[Value.int IntKind.u64 ↑(lw V 0), Value.int IntKind.u64 ↑(lw V 1), Value.int IntKind.u64 ↑(lw V 2), Value.int IntKind.u64 ↑(lw V 3)] 50)) (s0B wr V 50) (Nat.le_refl _)
   clear st
   generalize wr.alloc (Obj.cells #[Value.int IntKind.u64 ↑(lw V 0), Value.int IntKind.u64 ↑(lw V 1), Value.int IntKind.u64 ↑(lw V 2), Value.int IntKind.u64 ↑(lw V 3)] 50) = w5 at *
   generalize wr.heap.size = g5 at *
   go_loopw [52] (fun _ wx => ∃ U : Nat, U < B64 ^ 4 ∧ U % p = V0 % p ∧ St Nob w wx [(g2, cw 4 p ++ cw 4 (B64 ^ 4 - p), 66), (g4, cw 4 0, 50), (g5, cw 4 U, 50)]) (fun _ wx => a0u wx g5 0 4)
   case atStart => exact ⟨V, HV4.out, HVM.out, st5.less (by simp)⟩
   case round =>
    obtain ⟨U, hU, hUm, st⟩ := hrel
    clear st5
    have HU := qH hU; clear hU
    have HUM := qH hUm; clear hUm
    have hvu := d0H (st.at 2 rfl) HU.out
    have HVU := qH hvu; clear hvu
    go_wp2_with (with_reducible refine wSk 52 ?_)
    refine a0h st 2 rfl rfl rfl Tryz.underlying50 rfl (by rw [a0a]; exact d0r) ?_
    go_wp2_with (with_reducible refine wSk 54 ?_)
    refine b0E rfl rfl Tryz.underlying50 rfl (st.at 0 rfl) (cw 4 p) (f0u 4 4 _ _) (by rw [a0a]; exact d0r) ?_
    go_wp2_with fail
    have hcs := e0m U p 4 HU.out HP.out
    refine (g0b U p _ HP.out).mono ?_
    rintro e' w6 ⟨rfl, hf6⟩
    have st6 := st.keep hf6
    clear st hf6
    by_cases hlt : U < p
    ·rw [if_pos hlt] at hcs
     rw [hcs]
     have hm : U = V0 % p := by rw [← HUM.out, Nat.mod_eq_of_lt hlt]
     have HM := qH hm
     clear hm hcs hlt
     go_wp2_with (with_reducible refine wSk 6 ?_)
     refine a0b st6 rfl rfl (z := zAd) (by kernel_rfl) (cw 4 0) (by rw [a0f]; rfl) ?_
     intro g6 w7 st7
     clear st6
     go_wp2_with (with_reducible refine wSn ?_)
     refine a0d st7 3 rfl rfl rfl rfl rfl (by rw [a0a, a0a]) (by rw [a0a]; exact d0r) (a0i _ _) ?_
     intro w8 st8
     clear st7
     go_wp2_with (with_reducible refine wSk 60 ?_)
     refine a0h st8 2 rfl rfl rfl Tryz.underlying50 rfl (by rw [a0a]; exact d0r) ?_
     go_wp2_with (with_reducible refine wSn ?_)
     refine a0d st8 1 rfl rfl rfl rfl rfl (by rw [a0a, a0a]) (by rw [a0a]; exact d0r) (a0i _ _) ?_
     intro w9 st9
     clear st8
     have hd9 := st9.at 1 rfl
     rw [HM.out] at hd9
     have hf9 := st9.fr
     clear st9
     go_wp2
     exact bodyPost_ret (a0q rfl rfl hd9 Tryz.underlying50 (by rw [a0a]; exact d0r)) rfl ⟨rfl, hf9⟩
    ·rw [if_neg hlt] at hcs
     rw [hcs]
     have e1 : cw 4 (U + B64 ^ 4 - p) = cw 4 (U - p) := by
      rw [← cw_mod, show U + B64 ^ 4 - p = (U - p) + B64 ^ 4 by omega, Nat.add_mod_right, cw_mod]
     have hm : (U - p) % p = V0 % p := by rw [← HUM.out, ← Nat.mod_eq_sub_mod (by omega)]
     have HM := qH hm
     have HE := qH e1
     have hltU : U - p < U := by have := HP0.out; omega
     have hbU : U - p < B64 ^ 4 := by have := HU.out; omega
     have HLTU := qH hltU
     have HBU := qH hbU
     clear hm hcs hlt e1 hltU hbU
     go_wp2_with (with_reducible refine wSk 6 ?_)
     refine a0b st6 rfl rfl (z := zAd) (by kernel_rfl) (cw 4 0) (by rw [a0f]; rfl) ?_
     intro g6 w7 st7
     clear st6
     go_wp2_with (with_reducible refine wSn ?_)
     refine a0d st7 3 rfl rfl rfl rfl rfl (by rw [a0a, a0a]) (by rw [a0a]; exact d0r) (a0i _ _) ?_
     intro w8 st8
     clear st7
     rw [HE.out] at st8
     go_wp2_with (with_reducible refine wSk 61 ?_)
     refine a0h st8 3 rfl rfl rfl Tryz.underlying50 rfl (by rw [a0a]; exact d0r) ?_
     go_wp2_with (with_reducible refine wSn ?_)
     refine a0d st8 2 rfl rfl rfl rfl rfl (by rw [a0a, a0a]) (by rw [a0a]; exact d0r) (a0i _ _) ?_
     intro w9 st9
     clear st8
     have hv9 := d0H (st9.at 2 rfl) HBU.out
     have HV9 := qH hv9; clear hv9
     go_wp2
     refine ⟨?_, ?_⟩
     ·((repeat apply Exists.intro); exact ⟨⟨U - p, HBU.out, HM.out, st9.less (by simp)⟩, rfl⟩)
     ·rw [HV9.out, HVU.out]; exact HLTU.out
  ·have hb : ((o : Int) != 0) = true := by simp; omega
   have hD := fun h => hz (htz.2 h)
   clear htz hz
   have HD := qH hD; clear hD
   have hD' : V / B64 ^ 4 ≠ 0 := HD.out
   have hprod := fun wx => e0c (V / B64 ^ 4) (B64 ^ 4 - p) wx (Nat.div_lt_of_lt_mul (by rw [← Nat.pow_add]; exact HV.out)) (by have := HP0.out; have := b0F 4; omega)
   rw [v0G] at hprod
   have hplus := fun wx => g0F (V / B64 ^ 4 * (B64 ^ 4 - p)) (V % B64 ^ 4) wx
   rw [p0M] at hplus
   have hlt := s0y (B64 ^ 4 - p) V (by have := HP0.out; have := b0F 4; omega) hD'
   have hmod := p0J p (B64 ^ 4 - p) V (by have := HP.out; omega)
   have e : V / B64 ^ 4 * (B64 ^ 4 - p) + V % B64 ^ 4 = a0P (B64 ^ 4 - p) V := by unfold a0P; rfl
   rw [e] at hplus
   generalize a0P (B64 ^ 4 - p) V = V' at *
   clear e hD'
   have mks : ∀ wx, St Nob w wx [(g2, cw 4 p ++ cw 4 (B64 ^ 4 - p), 66), (g3, cw 8 V, 106), (g4, cw 4 0, 50)] →
     wx.cell? ⟨g3, 0, none⟩ = some (.int .u64 (lw V 0 : Nat)) ∧ wx.cell? ⟨g3, 1, none⟩ = some (.int .u64 (lw V 1 : Nat)) ∧ wx.cell? ⟨g3, 2, none⟩ = some (.int .u64 (lw V 2 : Nat)) ∧ wx.cell? ⟨g3, 3, none⟩ = some (.int .u64 (lw V 3 : Nat)) ∧
     wx.cell? ⟨g3, 4, none⟩ = some (.int .u64 (lw V 4 : Nat)) ∧ wx.cell? ⟨g3, 5, none⟩ = some (.int .u64 (lw V 5 : Nat)) ∧ wx.cell? ⟨g3, 6, none⟩ = some (.int .u64 (lw V 6 : Nat)) ∧ wx.cell? ⟨g3, 7, none⟩ = some (.int .u64 (lw V 7 : Nat)) := fun wx h =>
    ⟨(h.at 1 rfl).cell (a0D 8 V 0 (by decide)), (h.at 1 rfl).cell (a0D 8 V 1 (by decide)), (h.at 1 rfl).cell (a0D 8 V 2 (by decide)), (h.at 1 rfl).cell (a0D 8 V 3 (by decide)),
     (h.at 1 rfl).cell (a0D 8 V 4 (by decide)), (h.at 1 rfl).cell (a0D 8 V 5 (by decide)), (h.at 1 rfl).cell (a0D 8 V 6 (by decide)), (h.at 1 rfl).cell (a0D 8 V 7 (by decide))⟩
   have hvv := d0H (st.at 1 rfl) HV.out
   have HVV := qH hvv
   clear hvv
   have MKS := qH mks
   have HPROD := qH hprod
   have HPLUS := qH hplus
   have HLT := qH hlt
   have HMOD := qH hmod
   clear mks hprod hplus hlt hmod
   go_wp2_with fail
   clear c0 c1 c2 c3 c4 c5 c6 c7 o1 o2 o3 hb
   refine wp_region_noPanic ?_
   refine b0O (fun wx => St Nob w wx [(g2, cw 4 p ++ cw 4 (B64 ^ 4 - p), 66), (g3, cw 8 V, 106), (g4, cw 4 0, 50)]) 22 [(0, true), (1, true), (2, true), (3, true), (4, true), (5, true), (6, true), (7, true), (8, true), (9, true), (10, true), (12, true), (13, true), (14, true), (15, true), (16, true), (17, true), (18, true), (19, true), (20, true), (11, false), (21, false)] (by kernel_rfl) (by kernel_rfl) st.drew (fun _ _ _ _ _ h => h) ?_
   refine a0B (v := ?_) rfl rfl (fun wx hS => ?_) ?_
   rotate_left 1
   ·(have hc := MKS.out wx hS; obtain ⟨d0, d1, d2, d3, d4, d5, d6, d7⟩ := hc; clear hS; go_simp; with_reducible rfl)
   try simp only [clL]
   refine a0B (v := ?_) rfl rfl (fun wx hS => ?_) ?_
   rotate_left 1
   ·(have hc := MKS.out wx hS; obtain ⟨d0, d1, d2, d3, d4, d5, d6, d7⟩ := hc; clear hS; go_simp; with_reducible rfl)
   try simp only [clL]
   refine a0B (v := ?_) rfl rfl (fun wx hS => ?_) ?_
   rotate_left 1
   ·(have hc := MKS.out wx hS; obtain ⟨d0, d1, d2, d3, d4, d5, d6, d7⟩ := hc; clear hS; go_simp; with_reducible rfl)
   try simp only [clL]
   refine a0B (v := ?_) rfl rfl (fun wx hS => ?_) ?_
   rotate_left 1
   ·(have hc := MKS.out wx hS; obtain ⟨d0, d1, d2, d3, d4, d5, d6, d7⟩ := hc; clear hS; go_simp; with_reducible rfl)
   try simp only [clL]
   refine a0B (v := ?_) rfl rfl (fun wx hS => ?_) ?_
   rotate_left 1
   ·(have hc := MKS.out wx hS; obtain ⟨d0, d1, d2, d3, d4, d5, d6, d7⟩ := hc; clear hS; go_simp; with_reducible rfl)
   try simp only [clL]
   refine a0B (v := ?_) rfl rfl (fun wx hS => ?_) ?_
   rotate_left 1
   ·(have hc := MKS.out wx hS; obtain ⟨d0, d1, d2, d3, d4, d5, d6, d7⟩ := hc; clear hS; go_simp; with_reducible rfl)
   try simp only [clL]
   refine a0B (v := ?_) rfl rfl (fun wx hS => ?_) ?_
   rotate_left 1
   ·(have hc := MKS.out wx hS; obtain ⟨d0, d1, d2, d3, d4, d5, d6, d7⟩ := hc; clear hS; go_simp; with_reducible rfl)
   try simp only [clL]
   refine a0B (v := ?_) rfl rfl (fun wx hS => ?_) ?_
   rotate_left 1
   ·(have hc := MKS.out wx hS; obtain ⟨d0, d1, d2, d3, d4, d5, d6, d7⟩ := hc; clear hS; go_simp; with_reducible rfl)
   try simp only [clL]
   refine a0B (v := ?_) rfl rfl (fun wx hS => ?_) ?_
   rotate_left 1
   ·(have hc := MKS.out wx hS; obtain ⟨d0, d1, d2, d3, d4, d5, d6, d7⟩ := hc; clear hS; go_simp; with_reducible rfl)
   try simp only [clL]
   refine a0B (v := ?_) rfl rfl (fun wx hS => ?_) ?_
   rotate_left 1
   ·(have hc := MKS.out wx hS; obtain ⟨d0, d1, d2, d3, d4, d5, d6, d7⟩ := hc; clear hS; go_simp; with_reducible rfl)
   try simp only [clL]
   refine c0U rfl rfl rfl rfl (cw 4 (B64 ^ 4 - p)) (fun wx hS => St.rangeL hS 0 rfl 4 _ (s0C 4 4 _ _)) Tryz.underlying50 rfl (by rw [a0a]; exact d0r) ?_
   try simp only [clL]
   refine a0B (v := ?_) rfl rfl (fun wx hS => ?_) ?_
   rotate_left 1
   ·(have hc := MKS.out wx hS; obtain ⟨d0, d1, d2, d3, d4, d5, d6, d7⟩ := hc; clear hS; go_simp; with_reducible rfl)
   try simp only [clL]
   refine a0B (v := ?_) rfl rfl (fun wx hS => ?_) ?_
   rotate_left 1
   ·(have hc := MKS.out wx hS; obtain ⟨d0, d1, d2, d3, d4, d5, d6, d7⟩ := hc; clear hS; go_simp; with_reducible rfl)
   try simp only [clL]
   refine a0B (v := ?_) rfl rfl (fun wx hS => ?_) ?_
   rotate_left 1
   ·(have hc := MKS.out wx hS; obtain ⟨d0, d1, d2, d3, d4, d5, d6, d7⟩ := hc; clear hS; go_simp; with_reducible rfl)
   try simp only [clL]
   refine a0B (v := ?_) rfl rfl (fun wx hS => ?_) ?_
   rotate_left 1
   ·(have hc := MKS.out wx hS; obtain ⟨d0, d1, d2, d3, d4, d5, d6, d7⟩ := hc; clear hS; go_simp; with_reducible rfl)
   try simp only [clL]
   refine a0B (v := ?_) rfl rfl (fun wx hS => ?_) ?_
   rotate_left 1
   ·(have hc := MKS.out wx hS; obtain ⟨d0, d1, d2, d3, d4, d5, d6, d7⟩ := hc; clear hS; go_simp; with_reducible rfl)
   try simp only [clL]
   refine a0B (v := ?_) rfl rfl (fun wx hS => ?_) ?_
   rotate_left 1
   ·(have hc := MKS.out wx hS; obtain ⟨d0, d1, d2, d3, d4, d5, d6, d7⟩ := hc; clear hS; go_simp; with_reducible rfl)
   try simp only [clL]
   refine a0B (v := ?_) rfl rfl (fun wx hS => ?_) ?_
   rotate_left 1
   ·(have hc := MKS.out wx hS; obtain ⟨d0, d1, d2, d3, d4, d5, d6, d7⟩ := hc; clear hS; go_simp; with_reducible rfl)
   try simp only [clL]
   refine a0B (v := ?_) rfl rfl (fun wx hS => ?_) ?_
   rotate_left 1
   ·(have hc := MKS.out wx hS; obtain ⟨d0, d1, d2, d3, d4, d5, d6, d7⟩ := hc; clear hS; go_simp; with_reducible rfl)
   try simp only [clL]
   refine a0B (v := ?_) rfl rfl (fun wx hS => ?_) ?_
   rotate_left 1
   ·(have hc := MKS.out wx hS; obtain ⟨d0, d1, d2, d3, d4, d5, d6, d7⟩ := hc; clear hS; go_simp; with_reducible rfl)
   try simp only [clL]
   refine d0l rfl rfl ?_
   go_simp
   refine (HPROD.out _).mono ?_
   rintro e' w9 ⟨rfl, hf9⟩
   refine ⟨st.drew.keep hf9, ?_⟩
   try simp only [clL]
   refine d0l rfl rfl ?_
   go_simp
   refine (HPLUS.out _).mono ?_
   rintro e' w10 ⟨rfl, hf10⟩
   refine ⟨(st.drew.keep hf9).keep hf10, ?_⟩
   try simp only [clL]
   refine f0w ?_
   try simp only [List.drop_succ_cons, List.drop_zero]
   have st10 := (st.drew.keep hf9).keep hf10
   clear st hf9 hf10
   refine a0d st10 1 rfl rfl rfl rfl rfl (by rw [a0a, a0a]) (by rw [a0a]; exact p0N) (a0i _ _) ?_
   intro w11 st11
   have hv11 := d0H (st11.at 1 rfl) (Nat.lt_trans HLT.out HV.out)
   clear st10
   go_wp2
   refine NoPanic.normal ?_
   refine ⟨?_, ?_⟩
   ·((repeat apply Exists.intro); exact ⟨⟨V', Nat.lt_trans HLT.out HV.out, HMOD.out.trans HVM.out, st11⟩, rfl⟩)
   ·rw [hv11, HVV.out]; exact HLT.out
end Go.Proofs.YtemcankmggmgoaaGreatDoor
