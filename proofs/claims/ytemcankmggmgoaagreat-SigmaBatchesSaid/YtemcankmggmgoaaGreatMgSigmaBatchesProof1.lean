/- ; ; ; ; ; ; ; ; ; ; ; ; ; ; ; ; ; ; ; ; . -/
import Derived.WalkKit
import Derived.WalkLawsBesides
import Derived.WalkSpells
import Derived.Lib.Hide
import Derived.Laws.CopyOwn
import Derived.Deep.QuietTactic
import Derived.BigQuiet
import Derived.StillTailTactics
import Derived.Deep.RegionHeld3
import Derived.Deep.RegionWith
import Derived.Deep.DeepFit
import Derived.Test.YtemcankmggmgoaaGreatProg
import Derived.KernelRfl
import Derived.Deep.MidRow
set_option maxHeartbeats 16000000
set_option maxRecDepth 1000000
open Go.Proofs.Tryz

namespace Go.Mv
open Go.RowKit
structure Fr (S : Nat → Prop) (w w' : World) : Prop where
 os : w'.os = w.os
 tape : w'.tape = w.tape
 output : w'.output = w.output
 size : w.heap.size ≤ w'.heap.size
 block : ∀ k, k < w.heap.size → ¬ S k → w'.heap[k]? = w.heap[k]?
def Nob : Nat → Prop := fun _ => False
def One (g : Nat) : Nat → Prop := fun k => k = g
theorem Fr.refl (S : Nat → Prop) (w : World) : Fr S w w := ⟨rfl, rfl, rfl, Nat.le_refl _, fun _ _ _ => rfl⟩
theorem Fr.trans {S T : Nat → Prop} {a b c : World} (h : Fr S a b) (k : Fr T b c) (hT : ∀ i, i < a.heap.size → T i → S i) : Fr S a c :=
 ⟨k.os.trans h.os, k.tape.trans h.tape, k.output.trans h.output, Nat.le_trans h.size k.size,
  fun i hi hs => (k.block i (Nat.lt_of_lt_of_le hi h.size) (fun t => hs (hT i hi t))).trans (h.block i hi hs)⟩
theorem Fr.mono {S T : Nat → Prop} {a b : World} (h : Fr S a b) (hT : ∀ i, i < a.heap.size → S i → T i) : Fr T a b :=
 ⟨h.os, h.tape, h.output, h.size, fun i hi hs => h.block i hi (fun t => hs (hT i hi t))⟩
theorem Fr.then {a b c : World} (h : Fr Nob a b) (k : Fr Nob b c) : Fr Nob a c := h.trans k (fun _ _ t => t)
theorem Fr.new {S : Nat → Prop} {g : Nat} {a b c : World} (h : Fr S a b) (k : Fr (One g) b c) (hg : a.heap.size ≤ g) : Fr S a c :=
 h.trans k (fun i hi t => by have : i = g := t; omega)
theorem Fr.same {S : Nat → Prop} {a b c : World} (h : Fr S a b) (k : Fr Nob b c) : Fr S a c := h.trans k (fun _ _ t => t.elim)
theorem Fr.drew {S : Nat → Prop} {a b : World} (h : Fr S a b) : Fr S a b.drew := ⟨h.os, h.tape, h.output, h.size, h.block⟩
theorem Fr.drewN {S : Nat → Prop} {a b : World} (h : Fr S a b) (n : Nat) : Fr S a (b.drewN n) := ⟨h.os, h.tape, h.output, h.size, h.block⟩
theorem Fr.alloc {S : Nat → Prop} {a b : World} (h : Fr S a b) (o : Obj) : Fr S a (b.alloc o) :=
 h.trans (T := Nob) ⟨rfl, rfl, rfl, by simp, fun k hk _ => Below.heap_alloc b o k hk⟩ (fun _ _ t => t.elim)
theorem Fr.setCell {S : Nat → Prop} {a b : World} (h : Fr S a b) (g i : Nat) (s : Option Nat) (u : Value) (hg : g < a.heap.size → S g) : Fr S a (b.setCell ⟨g, i, s⟩ u) :=
 h.trans (T := One g) ⟨rfl, rfl, rfl, by simp [World.setCell], fun k _ hk => heap_setCell_other b _ k u hk⟩ (fun i hi t => by have e : i = g := t; subst e; exact hg hi)
theorem Fr.below {a b : World} (h : Fr Nob a b) : Below a.heap.size a b := ⟨h.os, h.tape, h.output, h.size, fun k hk => h.block k hk id⟩
theorem Fr.cell {S : Nat → Prop} {a b : World} (h : Fr S a b) {g i : Nat} {v : Value} (hs : ¬ S g) (hc : a.cell? ⟨g, i, none⟩ = some v) : b.cell? ⟨g, i, none⟩ = some v :=
 (World.cell?_of_block (a := ⟨g, i, none⟩) (h.block g (block_lt_of_cell hc) hs)).trans hc
def Has (w : World) (g : Nat) (L : List Value) (T : TypeId) : Prop := ∃ lo hi, w.heap[g]? = some (.cells L.toArray T (lo, hi)) ∧ (lo = hi ∨ L.length ≤ lo)
theorem Has.lt {w : World} {g : Nat} {L : List Value} {T : TypeId} (h : Has w g L T) : g < w.heap.size := by
 obtain ⟨lo, hi, h, -⟩ := h
 rcases Nat.lt_or_ge g w.heap.size with k | k
 ·exact k
 ·simp [Array.getElem?_eq_none k] at h
theorem Has.get {w : World} {g : Nat} {L : List Value} {T : TypeId} (h : Has w g L T) (i : Nat) : w.cell? ⟨g, i, none⟩ = L[i]? := by
 obtain ⟨lo, hi, h, -⟩ := h
 rw [cell_of_row w g i _ T _ h]; simp
theorem Has.cell {w : World} {g : Nat} {L : List Value} {T : TypeId} (h : Has w g L T) {i : Nat} {v : Value} (hv : L[i]? = some v) : w.cell? ⟨g, i, none⟩ = some v := (h.get i).trans hv
theorem Has.free {w : World} {g : Nat} {L : List Value} {T : TypeId} (h : Has w g L T) (i : Nat) (hi : i < L.length) : w.frozen? ⟨g, i, none⟩ = false := by
 obtain ⟨lo, hi', h, k⟩ := h
 simp only [World.frozen?, h]
 rcases k with rfl | k
 ·simp <;> omega
 ·simp <;> omega
theorem Has.ready {w : World} {g : Nat} {L : List Value} {T : TypeId} (h : Has w g L T) {i : Nat} (hi : i < L.length) : ∃ v, w.cell? ⟨g, i, none⟩ = some v ∧ w.frozen? ⟨g, i, none⟩ = false :=
 ⟨L[i], h.cell (List.getElem?_eq_getElem hi), h.free i hi⟩
theorem Has.keep {S : Nat → Prop} {w w' : World} {g : Nat} {L : List Value} {T : TypeId} (h : Has w g L T) (hf : Fr S w w') (hs : ¬ S g) : Has w' g L T := by
 have hl := h.lt
 obtain ⟨lo, hi, h, k⟩ := h
 exact ⟨lo, hi, (hf.block g hl hs).trans h, k⟩
theorem Has.set {w : World} {g : Nat} {L : List Value} {T : TypeId} (h : Has w g L T) (i : Nat) (v : Value) : Has (w.setCell ⟨g, i, none⟩ v) g (L.set i v) T := by
 have hl := h.lt
 obtain ⟨lo, hi, h, k⟩ := h
 refine ⟨lo, hi, ?_, by simpa using k⟩
 simp only [World.setCell, Array.getElem?_modify, if_true]
 simp [h]
theorem Has.other {w : World} {g g' : Nat} {L : List Value} {T : TypeId} (h : Has w g L T) (i : Nat) (s : Option Nat) (v : Value) (hn : g ≠ g') : Has (w.setCell ⟨g', i, s⟩ v) g L T := by
 obtain ⟨lo, hi, h, k⟩ := h
 exact ⟨lo, hi, (heap_setCell_other w ⟨g', i, s⟩ g v hn).trans h, k⟩
theorem Has.new (w : World) (L : Array Value) (T : TypeId) : Has (w.alloc (.cells L T)) w.heap.size L.toList T :=
 ⟨0, 0, by have := heap_alloc_new w (.cells L T); simpa using this, .inl rfl⟩
theorem Has.drew {w : World} {g : Nat} {L : List Value} {T : TypeId} (h : Has w g L T) : Has w.drew g L T := h
theorem Has.drewN {w : World} {g : Nat} {L : List Value} {T : TypeId} (h : Has w g L T) (n : Nat) : Has (w.drewN n) g L T := h
def At (w : World) (b o : Nat) (vs : List Value) : Prop := ∀ i v, vs[i]? = some v → w.cell? ⟨b, o + i, none⟩ = some v
def Rd (w : World) (a : Option Addr) (n : Nat) (vs : List Value) : Prop := vs.length = n ∧ (n = 0 ∨ ∃ b o, a = some ⟨b, o, none⟩ ∧ At w b o vs)
def Off (S : Nat → Prop) (a : Option Addr) : Prop := ∀ x, a = some x → ¬ S x.block
theorem Off.nob (a : Option Addr) : Off Nob a := fun _ _ h => h
theorem At.keep {S : Nat → Prop} {w w' : World} {b o : Nat} {vs : List Value} (h : At w b o vs) (hf : Fr S w w') (hs : ¬ S b) : At w' b o vs :=
 fun i v hv => hf.cell hs (h i v hv)
theorem Rd.keep {S : Nat → Prop} {w w' : World} {a : Option Addr} {n : Nat} {vs : List Value} (h : Rd w a n vs) (hf : Fr S w w') (hs : Off S a) : Rd w' a n vs := by
 refine ⟨h.1, h.2.imp id ?_⟩
 rintro ⟨b, o, rfl, ha⟩
 exact ⟨b, o, rfl, ha.keep hf (hs _ rfl)⟩
theorem Rd.still {w w' : World} {a : Option Addr} {n : Nat} {vs : List Value} (h : Rd w a n vs) (hf : Fr Nob w w') : Rd w' a n vs := h.keep hf (Off.nob a)
theorem Rd.nil (w : World) (a : Option Addr) : Rd w a 0 [] := ⟨rfl, .inl rfl⟩
theorem Rd.len {w : World} {a : Option Addr} {n : Nat} {vs : List Value} (h : Rd w a n vs) : vs.length = n := h.1
theorem _root_.Ab {p : Prop} (h : p := by omega) : p := h
theorem Rd.at {w : World} {a : Option Addr} {n : Nat} {vs : List Value} (h : Rd w a n vs) (hn : 0 < n) : ∃ b o, a = some ⟨b, o, none⟩ ∧ At w b o vs := h.2.resolve_left Ab
theorem Rd.ofHas {w : World} {g n : Nat} {L : List Value} {T : TypeId} (h : Has w g L T) (o : Nat) (hn : o + n ≤ L.length) : Rd w (some ⟨g, o, none⟩) n ((L.drop o).take n) := by
 refine ⟨by simp; omega, .inr ⟨g, o, rfl, fun i v hv => ?_⟩⟩
 rw [h.get]
 rw [List.getElem?_take] at hv
 split at hv
 ·simpa using hv
 ·cases hv
theorem _root_.Ae {p : Prop} (h : p := by simp) : p := h
theorem Rd.whole {w : World} {g : Nat} {L : List Value} {T : TypeId} (h : Has w g L T) : Rd w (some ⟨g, 0, none⟩) L.length L := by
 simpa using Rd.ofHas h 0 (n := L.length) Ae
theorem At.cell {w : World} {b o : Nat} {vs : List Value} (h : At w b o vs) {i : Nat} (hi : i < vs.length) : w.cell? ⟨b, o + i, none⟩ = some (vs.getD i undef) :=
 h i _ (by simp [List.getD_eq_getElem?_getD, List.getElem?_eq_getElem hi])
theorem At.sub {w : World} {b o : Nat} {vs : List Value} (h : At w b o vs) (k n : Nat) : At w b (o + k) ((vs.drop k).take n) := by
 intro i v hv
 rw [Nat.add_assoc]
 refine h (k + i) v ?_
 rw [List.getElem?_take] at hv
 split at hv
 ·simpa using hv
 ·cases hv
def bs (l : List UInt8) : List Value := l.map fun x => .int .u8 (x.toNat : Int)
theorem bP (l : List UInt8) : (bs l).length = l.length := by simp [bs]
theorem jF (l m : List UInt8) : bs (l ++ m) = bs l ++ bs m := by simp [bs]
theorem mB (l : List UInt8) (n : Nat) : (bs l).take n = bs (l.take n) := by simp [bs]
theorem c0s (l : List UInt8) (n : Nat) : (bs l).drop n = bs (l.drop n) := by simp [bs]
theorem wL (l : List UInt8) (i : Nat) (hi : i < l.length) : (bs l)[i]? = some (.int .u8 ((l.getD i 0).toNat : Int)) := by
 simp [bs, List.getElem?_eq_getElem hi, List.getD_eq_getElem?_getD]
theorem bs_set (l : List UInt8) (i : Nat) (x : UInt8) : (bs l).set i (.int .u8 (x.toNat : Int)) = bs (l.set i x) := by simp [bs]
theorem wM (l : List UInt8) : ∀ v ∈ bs l, v.oneCell' = true := by intro v hv; simp [bs] at hv; obtain ⟨x, _, rfl⟩ := hv; rfl
def RdB (w : World) (a : Option Addr) (n : Nat) (l : List UInt8) : Prop := Rd w a n (bs l)
theorem RdB.len {w : World} {a : Option Addr} {n : Nat} {l : List UInt8} (h : RdB w a n l) : l.length = n := by have := h.1; rwa [bP] at this
theorem RdB.at {w : World} {a : Option Addr} {n : Nat} {l : List UInt8} (h : RdB w a n l) (hn : 0 < n) : ∃ b o, a = some ⟨b, o, none⟩ ∧ ∀ i, i < n → w.cell? ⟨b, o + i, none⟩ = some (.int .u8 ((l.getD i 0).toNat : Int)) := by
 obtain ⟨b, o, ha, hc⟩ := Rd.at h hn
 exact ⟨b, o, ha, fun i hi => hc i _ (wL l i (by rw [h.len]; exact hi))⟩
theorem RdB.still {w w' : World} {a : Option Addr} {n : Nat} {l : List UInt8} (h : RdB w a n l) (hf : Fr Nob w w') : RdB w' a n l := Rd.still h hf
theorem RdB.keep {S : Nat → Prop} {w w' : World} {a : Option Addr} {n : Nat} {l : List UInt8} (h : RdB w a n l) (hf : Fr S w w') (hs : Off S a) : RdB w' a n l := Rd.keep h hf hs
def ws (l : List UInt64) : List Value := l.map fun x => .int .u64 (x.toNat : Int)
theorem bW (l : List UInt64) : (ws l).length = l.length := by simp [ws]
theorem fN (l : List UInt64) (i : Nat) (hi : i < l.length) : (ws l)[i]? = some (.int .u64 ((l.getD i 0).toNat : Int)) := by
 simp [ws, List.getElem?_eq_getElem hi, List.getD_eq_getElem?_getD]
theorem nM (l : List UInt64) (i : Nat) (x : UInt64) : (ws l).set i (.int .u64 (x.toNat : Int)) = ws (l.set i x) := by simp [ws]
def is (l : List Nat) : List Value := l.map fun (x : Nat) => .int .i64 (x : Int)
theorem kI (l : List Nat) : (is l).length = l.length := by simp [is]
theorem m0E (l : List Nat) (i : Nat) (hi : i < l.length) : (is l)[i]? = some (.int .i64 ((l.getD i 0 : Nat) : Int)) := by
 simp [is, List.getElem?_eq_getElem hi, List.getD_eq_getElem?_getD]
theorem m0F (l : List Nat) (i : Nat) (x : Nat) : (is l).set i (.int .i64 (x : Int)) = is (l.set i x) := by simp [is]
end Go.Mv
namespace Go.Mv
open Go.RowKit
variable {P : Program}
theorem hH (g o i : Nat) : (⟨g, o, none⟩ : Addr).add i = ⟨g, o + i, none⟩ := by unfold Addr.add; split <;> simp_all
theorem wO (L : List Value) (o : Nat) : splice L o [] = L := by simp [splice]
theorem _root_.Ao {p : Prop} (h : p := by simp; omega) : p := h
theorem sQ (L : List Value) (o : Nat) (v : Value) (vs : List Value) (h : o < L.length) : splice (L.set o v) (o + 1) vs = splice L o (v :: vs) := by
 unfold splice
 have e1 : (L.set o v).take (o + 1) = L.take o ++ [v] := by
  rw [List.take_set, List.take_succ_eq_append_getElem h, List.set_append_right _ _ Ao, List.length_take, Nat.min_eq_left (Nat.le_of_lt h), Nat.sub_self]
  rfl
 have e2 : (L.set o v).drop (o + 1 + vs.length) = L.drop (o + 1 + vs.length) := by rw [List.drop_set, if_pos Ab]
 rw [e1, e2]
 simp [Nat.add_comm, Nat.add_left_comm]
theorem yD {w : World} {g : Nat} {L : List Value} {T : TypeId} (h : Has w g L T) (i : Nat) (hi : i < L.length) (v : Value) (hv : v.oneCell' = true) :
  (store ⟨g, i, none⟩ v).run P w = .ok () (w.setCell ⟨g, i, none⟩ v) := by
 rw [run_store P w _ v _ hv, h.cell (List.getElem?_eq_getElem hi)]
 simp [h.free i hi]
theorem eW (g o : Nat) (T : TypeId) : ∀ (vs : List Value) (i : Nat) (L : List Value) (w : World), Has w g L T → o + i + vs.length ≤ L.length → (∀ v ∈ vs, v.oneCell' = true) →
  ∃ w', (storeCells ⟨g, o, none⟩ vs i).run P w = .ok () w' ∧ Has w' g (splice L (o + i) vs) T ∧ Fr (One g) w w' ∧ w'.heap.size = w.heap.size
 | [], i, L, w, h, _, _ => ⟨w, rfl, by rw [wO]; exact h, Fr.refl _ _, rfl⟩
 | v :: vs, i, L, w, h, hl, h1 => by
  have hi : o + i < L.length := by simp at hl; omega
  obtain ⟨w', hr, hh, hf, hz⟩ := eW g o T vs (i + 1) (L.set (o + i) v) (w.setCell ⟨g, o + i, none⟩ v) (h.set _ _) (by simp at hl ⊢; omega) (fun x hx => h1 x (by simp [hx]))
  refine ⟨w', ?_, ?_, ?_, ?_⟩
  ·simp only [storeCells, Sem.run_bind, hH, yD h (o + i) hi v (h1 v Ae), Result.andThen_ok, hr]
  ·rw [← sQ L (o + i) v vs hi]; exact hh
  ·exact ((Fr.refl (One g) w).setCell g (o + i) none v (fun _ => rfl)).trans hf (fun _ _ t => t)
  ·rw [hz]; simp [World.setCell]
theorem At.add {w : World} {b o : Nat} {vs : List Value} (h : At w b o vs) : ∀ j u, vs[j]? = some u → w.cell? ((⟨b, o, none⟩ : Addr).add j) = some u := fun j u hu => by
 rw [hH]; exact h j u hu
theorem qG {w : World} {a : Option Addr} {vs : List Value} (size n m c : Nat) (h : At w (a.getD ⟨0, 0, none⟩).block (a.getD ⟨0, 0, none⟩).off (vs.take (n * size)) ∨ n * size = 0) (ha : 0 < n * size → ∃ b o, a = some ⟨b, o, none⟩) (hl : n * size ≤ vs.length) :
  (Builtin.firstCells size n (.slice a m c)).run P w = .ok (vs.take (n * size)).toArray w := by
 rcases Nat.eq_zero_or_pos (n * size) with h0 | h0
 ·rw [h0]
  cases a with
  | none => simp [Builtin.firstCells]
  | some ad => simp [Builtin.firstCells, h0, loadCells, loadCellsFrom]
 ·obtain ⟨b, o, rfl⟩ := ha h0
  have h := h.resolve_right Ab
  exact run_firstCells_some (P := P) w size n ⟨b, o, none⟩ m c (vs.take (n * size)) Ao h.add
theorem kJ {w : World} {a : Option Addr} {k : Nat} {vs : List Value} (h : Rd w a k vs) (size n m c : Nat) (hl : n * size ≤ k) :
  (Builtin.firstCells size n (.slice a m c)).run P w = .ok (vs.take (n * size)).toArray w := by
 refine qG size n m c ?_ ?_ (by rw [h.len]; exact hl)
 ·rcases Nat.eq_zero_or_pos (n * size) with h0 | h0
  ·exact .inr h0
  ·obtain ⟨b, o, rfl, hc⟩ := h.at Ab
   refine .inl fun i v hv => hc i v ?_
   rw [List.getElem?_take] at hv
   split at hv
   ·exact hv
   ·cases hv
 ·intro h0
  obtain ⟨b, o, rfl, _⟩ := h.at Ab
  exact ⟨b, o, rfl⟩
def Own (w : World) (base : Nat) (T : TypeId) (sz : Nat) (v : Value) (n : Nat) (L : List Value) : Prop :=
 L.length = n * sz ∧ ((v = .slice none 0 0 ∧ n = 0) ∨
  ∃ g o cap B, v = .slice (some ⟨g, o, none⟩) n cap ∧ base ≤ g ∧ Has w g B T ∧ n ≤ cap ∧ cap ≤ maxLen ∧ o + cap * sz ≤ B.length ∧ (B.drop o).take (n * sz) = L)
def kH (v : Value) : Nat → Prop := fun k => v.ownBlock = some k
theorem Own.nil (w : World) (base : Nat) (T : TypeId) (sz : Nat) : Own w base T sz (.slice none 0 0) 0 [] := ⟨by simp, .inl ⟨rfl, rfl⟩⟩
theorem Own.lt {w : World} {base : Nat} {T : TypeId} {sz : Nat} {v : Value} {n : Nat} {L : List Value} (h : Own w base T sz v n L) {k : Nat} (hk : kH v k) : base ≤ k ∧ k < w.heap.size := by
 rcases h.2 with ⟨rfl, _⟩ | ⟨g, o, cap, B, rfl, hb, hh, _⟩
 ·cases hk
 ·have : g = k := by simpa [kH, Value.ownBlock] using hk
  subst this
  exact ⟨hb, hh.lt⟩
theorem Own.keep {S : Nat → Prop} {w w' : World} {base : Nat} {T : TypeId} {sz : Nat} {v : Value} {n : Nat} {L : List Value} (h : Own w base T sz v n L) (hf : Fr S w w') (hs : ∀ k, kH v k → ¬ S k) : Own w' base T sz v n L := by
 refine ⟨h.1, h.2.imp id ?_⟩
 rintro ⟨g, o, cap, B, rfl, hb, hh, r⟩
 exact ⟨g, o, cap, B, rfl, hb, hh.keep hf (hs g rfl), r⟩
theorem Own.still {w w' : World} {base : Nat} {T : TypeId} {sz : Nat} {v : Value} {n : Nat} {L : List Value} (h : Own w base T sz v n L) (hf : Fr Nob w w') : Own w' base T sz v n L := h.keep hf (fun _ _ t => t)
theorem Own.mono {w : World} {base base' : Nat} {T : TypeId} {sz : Nat} {v : Value} {n : Nat} {L : List Value} (h : Own w base T sz v n L) (hb : base' ≤ base) : Own w base' T sz v n L := by
 refine ⟨h.1, h.2.imp id ?_⟩
 rintro ⟨g, o, cap, B, rfl, hb', r⟩
 exact ⟨g, o, cap, B, rfl, Nat.le_trans hb hb', r⟩
theorem Own.form {w : World} {base : Nat} {T : TypeId} {sz : Nat} {v : Value} {n : Nat} {L : List Value} (h : Own w base T sz v n L) : ∃ a cap, v = .slice a n cap ∧ n ≤ cap ∧ Rd w a (n * sz) L ∧ (∀ x, a = some x → base ≤ x.block) := by
 rcases h.2 with ⟨rfl, rfl⟩ | ⟨g, o, cap, B, rfl, hb, hh, hn, hm, hl, ht⟩
 ·refine ⟨none, 0, rfl, Nat.le_refl _, ⟨by simpa using h.1, .inl Ae⟩, by simp⟩
 ·have hle : n * sz ≤ cap * sz := Nat.mul_le_mul_right _ hn
  refine ⟨_, cap, rfl, hn, ?_, by simpa using hb⟩
  rw [← ht]
  exact Rd.ofHas hh o Ab
theorem Own.made {w : World} {g : Nat} {T : TypeId} {B : List Value} (h : Has w g B T) (base : Nat) (hb : base ≤ g) (sz n cap : Nat) (hn : n ≤ cap) (hm : cap ≤ maxLen) (hl : cap * sz ≤ B.length) :
  Own w base T sz (.slice (some ⟨g, 0, none⟩) n cap) n (B.take (n * sz)) := by
 have hle : n * sz ≤ cap * sz := Nat.mul_le_mul_right _ hn
 exact ⟨by simp; omega, .inr ⟨g, 0, cap, B, rfl, hb, h, hn, hm, by omega, by simp⟩⟩
theorem Own.fr {S : Nat → Prop} {w0 w w' : World} {base : Nat} {T : TypeId} {sz : Nat} {v : Value} {n : Nat} {L : List Value} (h : Own w base T sz v n L) (hf : Fr S w0 w) (hb : w0.heap.size ≤ base) (k : Fr (kH v) w w') : Fr S w0 w' :=
 hf.trans k (fun _ hi t => by have := (h.lt t).1; omega)
theorem oI (L : List Value) (o : Nat) (vs : List Value) (h : o + vs.length ≤ L.length) : (splice L o vs).length = L.length := length_splice L o vs h
theorem c0t (L : List Value) (o k : Nat) (vs : List Value) (h : o + k + vs.length ≤ L.length) : ((splice L (o + k) vs).drop o).take (k + vs.length) = (L.drop o).take k ++ vs := by
 unfold splice
 have h1 : (L.take (o + k)).drop o = (L.drop o).take k := by rw [List.drop_take]; congr 1; omega
 rw [List.drop_append_of_le_length Ao, h1]
 rw [← List.append_assoc]
 exact List.take_left' Ao
theorem lS {w : World} (t ty e : TypeId) (i : TypeInfo) (ht : P.underlying t = some (.slice e)) (hi : P.info? e = some i)
  (g o sLen sCap : Nat) (B : List Value) (T : TypeId) (hg : Has w g B T) (a : Option Addr) (m c : Nat) (news : List Value) (hnews : Rd w a (m * i.size) news) (h1 : ∀ u ∈ news, u.oneCell' = true)
  (hroom : sLen + m ≤ sCap) (hfit : o + sLen * i.size + news.length ≤ B.length) :
  ∃ w', (Builtin.append_ #[t, t] ty #[.slice (some ⟨g, o, none⟩) sLen sCap, .slice a m c]).run P w = .ok (.slice (some ⟨g, o, none⟩) (sLen + m) sCap) w' ∧
   Has w' g (splice B (o + sLen * i.size) news) T ∧ Fr (One g) w w' ∧ w'.heap.size = w.heap.size := by
 have hf := kJ (P := P) hnews i.size m m c (Nat.le_refl _)
 rw [List.take_of_length_le (by rw [hnews.len]; exact Nat.le_refl _)] at hf
 obtain ⟨w', hst, hh, hfr, hz⟩ := eW (P := P) g (o + sLen * i.size) T news 0 B w hg Ab h1
 simp only [Nat.add_zero] at hh
 refine ⟨w', ?_, hh, hfr, hz⟩
 simp [Builtin.append_, run_underlying ht, sizeOf, typeInfo, hi, Builtin.lenOf, hroom, hf, hH, hst]
theorem sR {w : World} (t ty e : TypeId) (i : TypeInfo) (ht : P.underlying t = some (.slice e)) (hi : P.info? e = some i) (s : Option Addr) (sLen sCap : Nat) (hl : sLen ≤ sCap) (a : Option Addr) (c : Nat) :
  (Builtin.append_ #[t, t] ty #[.slice s sLen sCap, .slice a 0 c]).run P w = .ok (.slice s sLen sCap) w := by
 have hf : (Builtin.firstCells i.size 0 (.slice a 0 c)).run P w = .ok #[] w := by
  cases a <;> simp [Builtin.firstCells, loadCells, loadCellsFrom]
 cases s <;> simp [Builtin.append_, run_underlying ht, sizeOf, typeInfo, hi, Builtin.lenOf, hl, hf, storeCells]
theorem nV {w : World} (base : Nat) (t ty e : TypeId) (z : Value) (sz by_ : Nat) (ht : P.underlying t = some (.slice e)) (hi0 : (P.info? e).map (fun i => (i.zero, i.size, i.bytes)) = some (some z, sz, by_))
  (hzs : z.cells.size = sz) (hsz : 0 < sz)
  (v : Value) (n : Nat) (L : List Value) (hown : Own w base e sz v n L)
  (a : Option Addr) (m c : Nat) (news : List Value) (hnews : Rd w a (m * sz) news) (h1 : ∀ u ∈ news, u.oneCell' = true)
  (h63 : n + m ≤ maxLen) (hbytes : (n + m) * by_ ≤ 140737488355328) (hbase : base ≤ w.heap.size) :
  ∃ v' w', (Builtin.append_ #[t, t] ty #[v, .slice a m c]).run P w = .ok v' w' ∧ Own w' base e sz v' (n + m) (L ++ news) ∧ Fr (kH v) w w' ∧
   (v'.ownBlock = v.ownBlock ∨ v'.ownBlock = some w.heap.size) := by
 obtain ⟨i, hi, hz, hsize, hby⟩ := info_parts hi0
 subst hsize
 subst hby
 rcases Nat.eq_zero_or_pos m with rfl | hm
 ·obtain ⟨s, cap, rfl, hc, -, -⟩ := hown.form
  have hn : news = [] := List.eq_nil_of_length_eq_zero (by rw [hnews.len]; simp)
  subst hn
  exact ⟨_, w, sR t ty e i ht hi s n cap hc a c, by simpa using hown, Fr.refl _ _, .inl rfl⟩
 have hms : 0 < m * i.size := Nat.mul_pos hm hsz
 obtain ⟨b, o', rfl, hat⟩ := hnews.at hms
 have hlen : (L ++ news).length = (n + m) * i.size := by rw [List.length_append, hown.1, hnews.len, Nat.add_mul]
 have hsmall : n + m ≤ 9223372036854775807 := by simp only [maxLen] at h63; omega
 have grown : ∀ (old : Nat), old < n + m →
   Own (w.drew.alloc (.cells (L.toArray ++ news.toArray ++ Builtin.zeroCells z.cells (grownCap w (n + m) old e - (n + m))) e)) base e i.size
    (.slice (some ⟨w.heap.size, 0, none⟩) (n + m) (grownCap w (n + m) old e)) (n + m) (L ++ news) ∧
   Fr (kH v) w (w.drew.alloc (.cells (L.toArray ++ news.toArray ++ Builtin.zeroCells z.cells (grownCap w (n + m) old e - (n + m))) e)) := by
  intro old ho
  have hge := grownCap_ge w (n + m) old e
  have hcm : grownCap w (n + m) old e ≤ maxLen := grownCap_le_maxLen w (n + m) old e h63
  have hz' : (Builtin.zeroCells z.cells (grownCap w (n + m) old e - (n + m))).size = (grownCap w (n + m) old e - (n + m)) * i.size := by simp [size_zeroCells, hzs]
  have hmul : (n + m) * i.size + (grownCap w (n + m) old e - (n + m)) * i.size = grownCap w (n + m) old e * i.size := by rw [← Nat.add_mul]; congr 1; omega
  refine ⟨⟨hlen, .inr ⟨w.heap.size, 0, _, _, rfl, hbase, Has.new w.drew _ e, hge, hcm, ?_, ?_⟩⟩, ((Fr.refl _ w).drew).alloc _⟩
  ·rw [List.length_append] at hlen
   simp only [Array.toList_append, List.length_append, Array.length_toList, hz', Nat.zero_add]
   omega
  ·simp only [Array.toList_append, List.drop_zero]
   rw [← hlen]
   exact List.take_left
 rcases hown.2 with ⟨rfl, rfl⟩ | ⟨g, o, cap, B, rfl, hbg, hg, hnc, hcm, hl, htake⟩
 ·have hx : L = [] := List.eq_nil_of_length_eq_zero (by simpa using hown.1)
  subst hx
  have hr := run_append_nil (P := P) w t ty e i z ht hi hz ⟨b, o', none⟩ m c news hnews.len hat.add hm Ab (by have hb := hbytes; simp only [Nat.zero_add] at hb; omega)
  have hgr := grown 0 Ab
  simp only [Nat.zero_add, List.nil_append, Array.empty_append] at hgr ⊢
  exact ⟨_, _, hr, hgr.1, hgr.2, .inr rfl⟩
 ·by_cases hroom : n + m ≤ cap
  ·have hle : (n + m) * i.size ≤ cap * i.size := Nat.mul_le_mul_right _ hroom
   have hnl := hnews.len
   have hfit : o + n * i.size + news.length ≤ B.length := by rw [Nat.add_mul] at hle; omega
   obtain ⟨w', hr, hh, hf, hzz⟩ := lS (P := P) t ty e i ht hi g o n cap B e hg _ m c news hnews h1 hroom hfit
   refine ⟨_, _, hr, ⟨hlen, .inr ⟨g, o, cap, _, rfl, hbg, hh, hroom, hcm, ?_, ?_⟩⟩, hf.mono (fun k _ t => by have e : k = g := t; subst e; rfl), .inl rfl⟩
   ·rw [oI _ _ _ hfit]; exact hl
   ·have := c0t B o (n * i.size) news hfit
    rw [htake] at this
    rw [← this, hnl, Nat.add_mul]
  ·have hle : n * i.size ≤ cap * i.size := Nat.mul_le_mul_right _ hnc
   have hrd : Rd w (some ⟨g, o, none⟩) (n * i.size) L := by rw [← htake]; exact Rd.ofHas hg o Ab
   have holds : ∀ j u, L[j]? = some u → w.cell? ((⟨g, o, none⟩ : Addr).add j) = some u := by
    rcases Nat.eq_zero_or_pos (n * i.size) with h0 | h0
    ·have : L = [] := List.eq_nil_of_length_eq_zero (by rw [hown.1, h0])
     subst this; intro j u hu; simp at hu
    ·obtain ⟨b2, o2, he, hc2⟩ := hrd.at h0
     simp only [Option.some.injEq, Addr.mk.injEq] at he
     obtain ⟨rfl, rfl, -⟩ := he
     exact hc2.add
   have hr := run_append_grow (P := P) w t ty e i z ht hi hz ⟨g, o, none⟩ n cap L hown.1 holds ⟨b, o', none⟩ m c news hnews.len hat.add Ab Ab (growslice_fits Ab hbytes)
   have hgr := grown cap Ab
   exact ⟨_, _, hr, hgr.1, hgr.2, .inr rfl⟩
theorem n0y (s : ByteArray) : bs s.data.toList = (s.data.map fun b => Value.int .u8 b.toNat).toList := by simp [bs]
theorem m0G (s : ByteArray) : (bs s.data.toList).length = s.size := by simp [bs]
section
variable {w : World} {ops : Array Oper} {rest : List Oper} {o : Oper} {a : Act} {Q : Exit → Act → World → Prop}
theorem gG {s x : Operand} {t : TypeId} (hgd : o.guard = none) (ho : o.op = .call { callee := .builtin .append, args := #[s, x], argTypes := #[t, t] })
  {e : TypeId} {z : Value} {sz by_ : Nat} (ht : P.underlying t = some (.slice e)) (hi0 : (P.info? e).map (fun i => (i.zero, i.size, i.bytes)) = some (some z, sz, by_))
  (hzs : z.cells.size = sz) (hsz : 0 < sz)
  {v : Value} {n base : Nat} {L : List Value} (hown : Own w base e sz v n L) (hs : a.eval s = v)
  {xa : Option Addr} {m c : Nat} {news : List Value} (hx : a.eval x = .slice xa m c) (hnews : Rd w xa (m * sz) news) (h1 : ∀ u ∈ news, u.oneCell' = true)
  (h63 : n + m ≤ maxLen) (hbytes : (n + m) * by_ ≤ 140737488355328) (hbase : base ≤ w.heap.size)
  (h : ∀ v' w', Own w' base e sz v' (n + m) (L ++ news) → Fr (kH v) w w' → (v'.ownBlock = v.ownBlock ∨ v'.ownBlock = some w.heap.size) → wpList P ops Q rest (a.put o.dst v') w') : wpList P ops Q (o :: rest) a w := by
 refine wpList_plain hgd fun K hK => ?_
 obtain ⟨v', w', hr, h2, h3, h4⟩ := nV (P := P) base t o.type e z sz by_ ht hi0 hzs hsz v n L hown xa m c news hnews h1 h63 hbytes hbase
 unfold Oper.wp execOp
 simp only [ho, resolve, invoke, builtin, Sem.run_bind, Sem.run_pure, Result.andThen_ok, List.map_toArray, List.map_cons, List.map_nil, hs, hx, hr]
 exact hK _ _ (h v' w' h2 h3 h4)
theorem yE (z : Value) (hz : z.cells = #[z]) (n : Nat) : (madeCells z.cells n).toList = List.replicate n z := by rw [hz]; exact toList_madeCells_one z n
theorem eP {l c : Operand} {t : TypeId} (hgd : o.guard = none) (ho : o.op = .makeSlice t l c) {e : TypeId} {z : Value} {by_ : Nat} (ht : P.underlying t = some (.slice e))
  (hi0 : (P.info? e).map (fun i => (i.zero, i.size, i.bytes)) = some (some z, 1, by_)) (hzc : z.cells = #[z]) {kl kc : IntKind} {x y : Int} (hl : a.eval l = .int kl x) (hc : a.eval c = .int kc y) (n m : Nat) (hx : x = n) (hy : y = m) (hnm : n ≤ m)
  (hb : by_ * m ≤ 281474976710656) (h63 : m ≤ maxLen)
  (h : ∀ w', Has w' w.heap.size (List.replicate m z) e → Fr Nob w w' → w'.heap.size = w.heap.size + 1 → wpList P ops Q rest (a.put o.dst (.slice (some ⟨w.heap.size, 0, none⟩) n m)) w') : wpList P ops Q (o :: rest) a w := by
 refine wpList_plain hgd fun K hK => ?_
 obtain ⟨i, hi, hz, hsize, hby⟩ := info_parts hi0
 subst hx
 subst hy
 have hmx : (m : Int) ≤ 9223372036854775807 := by simp only [maxLen] at h63; omega
 have hbb : (i.bytes : Int) * (m : Int) ≤ 281474976710656 := by
  have k : ((i.bytes * m : Nat) : Int) ≤ 281474976710656 := by rw [hby]; omega
  rwa [Int.natCast_mul] at k
 have hr := run_make (P := P) w t e i z ht hi hz kl kc n m Ab Ab hbb hmx
 simp only [Int.toNat_natCast, hsize, Nat.mul_one] at hr
 unfold Oper.wp execOp
 simp only [ho, hl, hc, Sem.run_bind, Sem.run_pure, Result.andThen_ok, hr]
 refine hK _ _ (h _ ?_ ((Fr.refl _ w).alloc _) Ae)
 have := Has.new w (madeCells z.cells m) e
 rwa [yE z hzc] at this
theorem g0X {d s : Operand} {t u : TypeId} (hgd : o.guard = none) (ho : o.op = .call { callee := .builtin .copy, args := #[d, s], argTypes := #[t, u] }) {e : TypeId} (ht : P.underlying t = some (.slice e)) (hsz : (P.info? e).map (·.size) = some 1)
  {g off dn dc : Nat} (hd : a.eval d = .slice (some ⟨g, off, none⟩) dn dc) {sa : Option Addr} {m c : Nat} (hs : a.eval s = .slice sa m c) {B vs : List Value} {T : TypeId} (hg : Has w g B T) (hrd : Rd w sa m vs) (h1 : ∀ v ∈ vs, v.oneCell' = true)
  (hfit : off + min m dn ≤ B.length)
  (h : ∀ w', Has w' g (splice B off (vs.take (min m dn))) T → Fr (One g) w w' → w'.heap.size = w.heap.size → wpList P ops Q rest (a.put o.dst (.int .i64 (min m dn : Nat))) w') : wpList P ops Q (o :: rest) a w := by
 refine wpList_plain hgd fun K hK => ?_
 obtain ⟨i, hi, hi1⟩ : ∃ i, P.info? e = some i ∧ i.size = 1 := by simpa using hsz
 have hfc := kJ (P := P) hrd 1 (min m dn) m c Ab
 rw [Nat.mul_one] at hfc
 have hlen : (vs.take (min m dn)).length = min m dn := by rw [List.length_take, hrd.len]; omega
 obtain ⟨w', hst, hh, hf, hz⟩ := eW (P := P) g off T (vs.take (min m dn)) 0 B w hg (by rw [hlen]; omega) (fun v hv => h1 v (List.mem_of_mem_take hv))
 simp only [Nat.add_zero] at hh
 have hr : (Builtin.copy_ #[t, u] o.type #[.slice (some ⟨g, off, none⟩) dn dc, .slice sa m c]).run P w = .ok (.int .i64 (min m dn : Nat)) w' := by
  simp [Builtin.copy_, run_underlying ht, sizeOf, typeInfo, hi, hi1, Builtin.lenOf, hfc, hst, goInt]
 unfold Oper.wp execOp
 simp only [ho, resolve, invoke, builtin, Sem.run_bind, Sem.run_pure, Result.andThen_ok, List.map_toArray, List.map_cons, List.map_nil, hd, hs, hr]
 exact hK _ _ (h w' hh hf hz)
def mkS (l : List UInt8) : ByteArray := ⟨l.toArray⟩
theorem iS (s : ByteArray) : mkS s.data.toList = s := by simp [mkS]
theorem aZ (l : List UInt8) : (mkS l).size = l.length := by simp [mkS, ByteArray.size]
theorem bS (l : List UInt8) : (mkS l).data.toList = l := by simp [mkS]
theorem jA {sa : Option Addr} {m : Nat} {l : List UInt8} (hrd : RdB w sa m l) (c : Nat) {src e dst : TypeId} (hs : P.underlying src = some (.slice e)) (he : P.underlying e = some (.int .u8)) (hd : P.underlying dst = some .string) :
  (convert src dst (.slice sa m c)).run P w = .ok (.string (mkS l)) w := by
 have hl := hrd.len
 rcases Nat.eq_zero_or_pos m with h0 | h0
 ·subst h0
  obtain rfl : l = [] := List.eq_nil_of_length_eq_zero hl
  cases sa with
  | none => exact run_convert_bytes_nil w src e hs he 0 c dst hd
  | some ad =>
   rw [run_convert_bytes_string w src dst e _ 0 c hs he hd]
   simp [Conv.bytesToString, mkS, loadCells, loadCellsFrom]
   rfl
 ·obtain ⟨b, o, rfl, hc⟩ := hrd.at h0
  have := run_convert_bytes_arg (P := P) w src e hs he b o m c (l.map fun x => (x.toNat : Int)) (by simp [hl]) (fun i hi => by
   rw [hc i hi]; simp [List.getD_eq_getElem?_getD, List.getElem?_eq_getElem (show i < l.length by omega)]) dst hd
  rw [this]
  have hid : (l.map ((fun n : Int => UInt8.ofNat n.toNat) ∘ fun x : UInt8 => (x.toNat : Int))) = l := by
   rw [List.map_congr_left (g := id)]
   ·simp
   ·intro x _; simp
  simp only [strOfNums, List.map_map, hid, mkS]
theorem fE {x : Operand} {src dst : TypeId} (hgd : o.guard = none) (ho : o.op = .convert src dst x) {e : TypeId} (hs : P.underlying src = some (.slice e)) (he : P.underlying e = some (.int .u8)) (hd : P.underlying dst = some .string)
  {sa : Option Addr} {m c : Nat} {l : List UInt8} (hx : a.eval x = .slice sa m c) (hrd : RdB w sa m l) (h : wpList P ops Q rest (a.put o.dst (.string (mkS l))) w) : wpList P ops Q (o :: rest) a w := by
 refine wpList_plain hgd fun K hK => ?_
 have hr := jA (P := P) hrd c hs he hd
 unfold Oper.wp execOp
 simp only [ho, hx, Sem.run_bind, Sem.run_pure, Result.andThen_ok, hr]
 exact hK _ _ h
theorem fV {x : Operand} {src dst : TypeId} (hgd : o.guard = none) (ho : o.op = .convert src dst x) {e : TypeId} (hs : P.underlying src = some .string) (hd : P.underlying dst = some (.slice e)) (he : P.underlying e = some (.int .u8))
  {q : ByteArray} (hx : a.eval x = .string q) (hq : q.size ≤ maxLen) (base : Nat) (hb : base ≤ w.heap.size)
  (h : ∀ cap w', Own w' base e 1 (.slice (some ⟨w.heap.size, 0, none⟩) q.size cap) q.size (bs q.data.toList) → Fr Nob w w' → w.heap.size < w'.heap.size → wpList P ops Q rest (a.put o.dst (.slice (some ⟨w.heap.size, 0, none⟩) q.size cap)) w') : wpList P ops Q (o :: rest) a w := by
 refine wpList_plain hgd fun K hK => ?_
 have hr := run_bytes_of_string (P := P) w src dst e q hs hd he
 have hge := grownCap_ge w q.size 0 e
 have hcm := grownCap_le_maxLen w q.size 0 e hq
 unfold Oper.wp execOp
 simp only [ho, hx, Sem.run_bind, Sem.run_pure, Result.andThen_ok, hr]
 refine hK _ _ (h _ _ ⟨by rw [m0G]; omega, .inr ⟨w.heap.size, 0, _, (bytesRow q (grownCap w q.size 0 e)).toList, rfl, hb, ?_, hge, hcm, ?_, ?_⟩⟩ (((Fr.refl _ w).drew).alloc _) Ae)
 ·refine ⟨(bytesRow q (grownCap w q.size 0 e)).size, (bytesRow q (grownCap w q.size 0 e)).size + 1, ?_, .inr (Nat.le_of_eq ?_)⟩
  ·have := heap_alloc_new w.drew (.cells (bytesRow q (grownCap w q.size 0 e)) e ((bytesRow q (grownCap w q.size 0 e)).size, (bytesRow q (grownCap w q.size 0 e)).size + 1))
   simpa using this
  ·simp
 ·have hd : q.data.size = q.size := rfl
  simp [bytesRow, hd]; omega
 ·simp only [bytesRow, Array.toList_append, List.drop_zero, Nat.mul_one]
  rw [← n0y]
  exact List.take_left' (by rw [m0G])
end
def q0e (p : Prop) : Prop := p
theorem nW {w : World} {ops : Array Oper} {rest : List Oper} {o : Oper} {a : Act} {Q : Exit → Act → World → Prop} (h : q0e (wpList P ops Q (o :: rest) a w)) : wpList P ops Q (o :: rest) a w := h
theorem _root_.qH {p : Prop} (h : p) : Hid p := h
theorem AA (k : Nat) {P : Program} {w : World} {ops : Array Oper} {rest : List Oper} {p1 : Op} {p2 : TypeId} {p3 : String} {p4 : Array Edge} {p5 : Option (Nat × Bool)} {a : Act} {Q : Exit → Act → World → Prop} (h : q0e (wpList P ops Q (⟨some k, p1, p2, p3, p4, p5⟩ :: rest) a w)) : wpList P ops Q (⟨some k, p1, p2, p3, p4, p5⟩ :: rest) a w := h
theorem AB {P : Program} {w : World} {ops : Array Oper} {rest : List Oper} {p1 : Op} {p2 : TypeId} {p3 : String} {p4 : Array Edge} {p5 : Option (Nat × Bool)} {a : Act} {Q : Exit → Act → World → Prop} (h : q0e (wpList P ops Q (⟨none, p1, p2, p3, p4, p5⟩ :: rest) a w)) : wpList P ops Q (⟨none, p1, p2, p3, p4, p5⟩ :: rest) a w := h
theorem dZl {α : Type} {l : List α} : List.take l.length (List.drop 0 l) = l := by rw [List.drop_zero, List.take_of_length_le (Nat.le_refl _)]
theorem _root_.apW {P : Program} {o : Oper} {a : Act} {v : Value} (h : ∀ wx, (execOp a.eval o).run P wx = .ok (.value v) wx := by intro wx; go_simp; with_reducible rfl) : ∀ wx, (execOp a.eval o).run P wx = .ok (.value v) wx := h
theorem _root_.apX {P : Program} {o : Oper} {A : (Nat → Value) → Act} {v : Value} (h : ∀ x wx, (execOp (A x).eval o).run P wx = .ok (.value v) wx := by intro xq wx; go_simp; with_reducible rfl) : ∀ x wx, (execOp (A x).eval o).run P wx = .ok (.value v) wx := h
abbrev _root_.zAc : Go.Value := .agg #[.int .u64 0, .int .u64 0, .int .u64 0, .int .u64 0, .int .u64 0, .int .u64 0, .int .u64 0, .int .u64 0, .int .u64 0, .int .u64 0, .int .u64 0, .int .u64 0]
abbrev _root_.zAd : Go.Value := .agg #[.int .u64 0, .int .u64 0, .int .u64 0, .int .u64 0]
theorem sS (s : ByteArray) : s.toList = s.data.toList := by
 have key : ∀ (n i : Nat) (r : List UInt8), s.size - i = n → ByteArray.toList.loop s i r = r.reverse ++ s.data.toList.drop i := by
  intro n
  induction n with
  | zero =>
   intro i r h
   rw [ByteArray.toList.loop, if_neg Ab, List.drop_eq_nil_of_le Ao, List.append_nil]
  | succ n ih =>
   intro i r h
   have hi : i < s.size := by omega
   rw [ByteArray.toList.loop, if_pos hi, ih (i + 1) _ Ab]
   have hl : i < s.data.toList.length := by simpa using hi
   rw [List.drop_eq_getElem_cons hl]
   have e : s.get! i = s.data.toList[i] := by
    have hd : i < s.data.size := hi
    show s.data[i]! = _
    rw [getElem!_pos s.data i hd]; simp
   rw [e]; simp
 have := key s.size 0 [] Ab
 simpa [ByteArray.toList] using this
end Go.Mv
namespace Mvp
def fill {α : Type} (F I : List α) (k : Nat) : List α := F.take k ++ I.drop k
theorem nX {α : Type} (F I : List α) (k : Nat) (h : F.length = I.length) : (fill F I k).length = I.length := by simp [fill]; omega
theorem a0B {α : Type} (F I : List α) : fill F I 0 = I := by simp [fill]
theorem yF {α : Type} (F I : List α) (k : Nat) (h : F.length = I.length) (hk : F.length ≤ k) : fill F I k = F := by
 unfold fill
 rw [List.take_of_length_le hk, List.drop_eq_nil_of_le Ab, List.append_nil]
theorem d0L {α : Type} (F I : List α) (k : Nat) (h : F.length = I.length) (hk : k < F.length) (d : α) : (fill F I k).set k (F.getD k d) = fill F I (k + 1) := by
 unfold fill
 have e : F.getD k d = F[k] := by simp [List.getD_eq_getElem?_getD, hk]
 rw [e, List.set_append_right _ _ Ao, List.length_take, Nat.min_eq_left (Nat.le_of_lt hk), Nat.sub_self, List.drop_eq_getElem_cons Ab, List.set_cons_zero, List.take_succ_eq_append_getElem hk]
 simp only [List.append_assoc, List.singleton_append]
def shl (x : UInt64) (k : Nat) : UInt64 := UInt64.ofNat (x.toNat * 2 ^ k)
def shr (x : UInt64) (k : Nat) : UInt64 := UInt64.ofNat (x.toNat / 2 ^ k)
def wx (x y : UInt64) : UInt64 := x ^^^ y
def wo (x y : UInt64) : UInt64 := x ||| y
def wa (x y : UInt64) : UInt64 := x &&& y
def wn (x : UInt64) : UInt64 := ~~~x
def wid (x : UInt8) : UInt64 := x.toUInt64
def lo8 (x : UInt64) : UInt8 := x.toUInt8
def bx (x y : UInt8) : UInt8 := x ^^^ y
def bo (x y : UInt8) : UInt8 := x ||| y
def ba (x y : UInt8) : UInt8 := x &&& y
def c0u (x : UInt64) (n : Nat) : UInt64 := shl x n ||| shr x (64 - n)
end Mvp
namespace Go.Proofs.YtemcankmggmgoaaGreat
section
open Go.RowKit Go.Mv Mvp
theorem dT : (prog.info? 5).map (fun i => (i.zero, i.size, i.bytes)) = some (some (.int .u8 0), 1, 1) := by kernel_rfl
theorem eQ : (prog.info? 5).map (·.size) = some 1 := by kernel_rfl
theorem g0Y (s : ByteArray) : s.data.toList.length = s.size := by simp
end
section
open Go.RowKit Go.Mv Mvp
end
end Go.Proofs.YtemcankmggmgoaaGreat
namespace Go.Mv
open Go.RowKit Mvp
theorem nN (x : UInt64) : x.toNat < 18446744073709551616 := x.toNat_lt
theorem a0C (x : UInt64) (k : Nat) : (shr x k).toNat = x.toNat / 2 ^ k := by
 have := nN x
 have h := Nat.div_le_self x.toNat (2 ^ k)
 simp only [shr, UInt64.toNat_ofNat']
 exact Nat.mod_eq_of_lt (Nat.lt_of_le_of_lt h this)
theorem a0D (x : UInt64) (k : Nat) : (shl x k).toNat = x.toNat * 2 ^ k % 18446744073709551616 := by simp [shl]
theorem c0v (x : UInt64) (yk : IntKind) (k : Nat) : Op.shift .shl .u64 (x.toNat : Int) yk (k : Int) = pure (.int .u64 ((shl x k).toNat : Int)) := by
 rw [shift_shl_any _ _ _ _ Ab, a0D]
 congr 2
 rw [IntKind.wrap_u64]
 simp only [Int.toNat_natCast, IntKind.bits]
 rcases Nat.lt_or_ge k 64 with h | h
 ·rw [Nat.min_eq_left Ab]
  simp
 ·rw [Nat.min_eq_right Ab]
  obtain ⟨j, rfl⟩ : ∃ j, k = 64 + j := ⟨k - 64, by omega⟩
  have e : x.toNat * 2 ^ (64 + j) = x.toNat * 2 ^ j * 18446744073709551616 := by
   have e64 : (2 : Nat) ^ 64 = 18446744073709551616 := by decide
   rw [Nat.pow_add, e64]; ac_rfl
  rw [e, Nat.mul_mod_left]
  have e2 : (2 : Int) ^ 64 = 18446744073709551616 := by decide
  rw [e2]
  omega
theorem g0Z (x : UInt64) (yk : IntKind) (k : Nat) : Op.shift .shr .u64 (x.toNat : Int) yk (k : Int) = pure (.int .u64 ((shr x k).toNat : Int)) := by
 rw [shift_shr_any _ _ _ _ Ab, a0C]
 congr 2
 simp only [Int.toNat_natCast, IntKind.bits]
 rcases Nat.lt_or_ge k 64 with h | h
 ·rw [Nat.min_eq_left Ab]
  simp
 ·rw [Nat.min_eq_right Ab]
  have hx := nN x
  have e2 : (2 : Int) ^ 64 = 18446744073709551616 := by decide
  have h3 : x.toNat / 2 ^ k = 0 := Nat.div_eq_of_lt (Nat.lt_of_lt_of_le hx (by have := Nat.pow_le_pow_right (show 0 < 2 by omega) h; simpa using this))
  rw [e2, h3]
  omega
theorem n0z (x : UInt64) (yk : IntKind) (n : Nat) : Op.shift .shl .u64 (x.toNat : Int) yk (no_index (OfNat.ofNat n)) = pure (.int .u64 ((shl x n).toNat : Int)) := c0v x yk n
theorem n0A (x : UInt64) (yk : IntKind) (n : Nat) : Op.shift .shr .u64 (x.toNat : Int) yk (no_index (OfNat.ofNat n)) = pure (.int .u64 ((shr x n).toNat : Int)) := g0Z x yk n
theorem c0w (x y : UInt64) : bits .xor .u64 (x.toNat : Int) (y.toNat : Int) = ((wx x y).toNat : Int) := by
 have := bits_xor_u64_nat x.toNat y.toNat (nN x) (nN y)
 rw [this]; simp [wx]
theorem m0H (x y : UInt64) : bits .or .u64 (x.toNat : Int) (y.toNat : Int) = ((wo x y).toNat : Int) := by
 have := bits_or_u64_nat x.toNat y.toNat (nN x) (nN y)
 rw [this]; simp [wo]
theorem n0B (x y : UInt64) : bits .and .u64 (x.toNat : Int) (y.toNat : Int) = ((wa x y).toNat : Int) := by
 have := bits_and_u64_nat x.toNat y.toNat (nN x) (nN y)
 rw [this]; simp [wa]
theorem h0a (x : UInt64) : bits .xor .u64 18446744073709551615 (x.toNat : Int) = ((wn x).toNat : Int) := by
 have e : (18446744073709551615 : Int) = (((18446744073709551615 : UInt64).toNat : Nat) : Int) := by decide
 have e1 : (18446744073709551615 : UInt64) = -1 := by decide
 rw [e, c0w, e1, wx, UInt64.neg_one_xor, wn]
theorem k0i (x : UInt64) : bits .xor .u64 (if IntKind.u64.signed = true then -1 else IntKind.u64.max) (x.toNat : Int) = ((wn x).toNat : Int) := h0a x
theorem h0b (k : Nat) : bits .and .u64 (k : Int) 63 = ((k % 64 : Nat) : Int) := by
 have h1 : BitVec.ofInt 64 (k : Int) = BitVec.ofNat 64 k := by simp
 have h2 : (BitVec.ofNat 64 k &&& BitVec.ofInt 64 63).toNat = k % 64 := by
  have e : (BitVec.ofInt 64 63).toNat = 2 ^ 6 - 1 := by decide
  rw [BitVec.toNat_and, e, Nat.and_two_pow_sub_one_eq_mod, BitVec.toNat_ofNat]
  omega
 show IntKind.u64.wrap (((BitVec.ofInt 64 (k : Int) &&& BitVec.ofInt 64 63).toNat : Nat) : Int) = _
 rw [h1, h2, IntKind.wrap_u64]
 omega
theorem h0c (x : UInt8) : IntKind.u64.wrap (x.toNat : Int) = ((wid x).toNat : Int) := by
 have := x.toNat_lt
 rw [IntKind.wrap_u64]; simp [wid]; omega
theorem f0p (x : UInt64) : IntKind.u8.wrap (x.toNat : Int) = ((lo8 x).toNat : Int) := by
 rw [IntKind.wrap_u8']; simp [lo8]
theorem rQ (x y : UInt8) : bits .xor .u8 (x.toNat : Int) (y.toNat : Int) = ((bx x y).toNat : Int) := by
 rw [u8_xor_nat _ _ x.toNat_lt y.toNat_lt]; simp [bx]
theorem k0j (x y : UInt8) : bits .and .u8 (x.toNat : Int) (y.toNat : Int) = ((ba x y).toNat : Int) := by
 rw [u8_and_nat _ _ x.toNat_lt y.toNat_lt]; simp [ba]
theorem n0C (x y : UInt8) : bits .or .u8 (x.toNat : Int) (y.toNat : Int) = ((bo x y).toNat : Int) := by
 rw [u8_or_nat _ _ x.toNat_lt y.toNat_lt]; simp [bo]
theorem oJ (k : Nat) : BitVec.ofInt 64 (k : Int) = BitVec.ofNat 64 k := by simp
theorem nO (n : Nat) (h : n < 9223372036854775808) : IntKind.i64.wrap (n : Int) = (n : Int) := by rw [IntKind.wrap_i64]; omega
theorem k0k (a b : Nat) (ha : a < 9223372036854775808) (hb : b < 9223372036854775808) : a ^^^ b < 9223372036854775808 := Nat.xor_lt_two_pow (n := 63) ha hb
theorem n0D (a b : Nat) (ha : a < 9223372036854775808) (hb : b < 9223372036854775808) : bits .xor .i64 (a : Int) (b : Int) = ((a ^^^ b : Nat) : Int) := by
 show IntKind.i64.wrap (((BitVec.ofInt 64 (a : Int) ^^^ BitVec.ofInt 64 (b : Int)).toNat : Nat) : Int) = _
 rw [oJ, oJ, BitVec.toNat_xor, BitVec.toNat_ofNat, BitVec.toNat_ofNat, Nat.mod_eq_of_lt Ab, Nat.mod_eq_of_lt Ab]
 exact nO _ (k0k a b ha hb)
theorem n0E (a b : Nat) (ha : a < 9223372036854775808) (hb : b < 9223372036854775808) : bits .and .i64 (a : Int) (b : Int) = ((a &&& b : Nat) : Int) := by
 show IntKind.i64.wrap (((BitVec.ofInt 64 (a : Int) &&& BitVec.ofInt 64 (b : Int)).toNat : Nat) : Int) = _
 rw [oJ, oJ, BitVec.toNat_and, BitVec.toNat_ofNat, BitVec.toNat_ofNat, Nat.mod_eq_of_lt Ab, Nat.mod_eq_of_lt Ab]
 exact nO _ (Nat.lt_of_le_of_lt Nat.and_le_left ha)
theorem sT (y : UInt8) : (wid y).toNat = y.toNat := by simp [wid]
theorem q0f (x : UInt64) (y : UInt8) : bits .or .u64 (x.toNat : Int) (y.toNat : Int) = ((wo x (wid y)).toNat : Int) := by rw [← m0H, sT]
theorem n0F (x : UInt64) (y : UInt8) : bits .xor .u64 (x.toNat : Int) (y.toNat : Int) = ((wx x (wid y)).toNat : Int) := by rw [← c0w, sT]
theorem n0G (x : UInt8) (yk : IntKind) (k : Nat) : Op.shift .shl .u64 (x.toNat : Int) yk (k : Int) = pure (.int .u64 ((shl (wid x) k).toNat : Int)) := by rw [← c0v, sT]
theorem k0l (x : UInt64) (k : Nat) : IntKind.u64.wrap ((x.toNat : Int) * 2 ^ k) = ((shl x k).toNat : Int) := by
 rw [IntKind.wrap_u64, a0D]; simp
theorem n0H (x : UInt64) (k : Nat) : (x.toNat : Int) / 2 ^ k = ((shr x k).toNat : Int) := by
 rw [a0C]; simp
attribute [go_sem high] k0l n0H q0f n0F n0G n0z n0A c0v g0Z c0w m0H n0B h0a k0i h0b h0c f0p rQ k0j n0C
section
variable {P : Program} {w : World} {ops : Array Oper} {rest : List Oper} {o : Oper} {a : Act} {Q : Exit → Act → World → Prop}
theorem a0E {x i : Operand} {t : TypeId} (hgd : o.guard = none) (ho : o.op = .index t x i) (ht : P.underlying t = some .string) {s : ByteArray} {ki : IntKind} {j : Int} (hx : a.eval x = .string s) (hi : a.eval i = .int ki j)
  (k : Nat) (hj : j = k) (hk : k < s.size) (y : UInt8) (hy : s.data.toList.getD k 0 = y) (h : wpList P ops Q rest (a.put o.dst (.int .u8 (y.toNat : Int))) w) : wpList P ops Q (o :: rest) a w := by
 refine wpList_plain hgd fun K hK => ?_
 subst hj
 have he : s[k]? = some y := by
  have h1 : s[k]? = some s[k] := getElem?_pos s k hk
  rw [h1]
  congr 1
  rw [← hy, List.getD_eq_getElem?_getD, List.getElem?_eq_getElem (by simpa using hk)]
  simp
  rfl
 have hr : (Instr.index t (.string s) (.int ki (k : Int))).run P w = .ok (.int .u8 (y.toNat : Int)) w := by
  simp [Instr.index, asIntOf, run_underlying ht, he]
 unfold Oper.wp execOp
 simp only [ho, hx, hi, Sem.run_bind, Sem.run_pure, Result.andThen_ok, hr]
 exact hK _ _ h
end
theorem f0q {P : Program} {f : FuncId} {args : Array Value} {w : World} {a n : Nat} {v : Value}
  (h : Calls P f args (w.drewN (a + n)) fun e w' => e = .returned v ∧ w' = w.drewN (a + n)) :
  Calls P f args (w.drewN (a + n)) fun e w'' => e = .returned v ∧ ∃ m, w'' = w.drewN (a + m) :=
 h.mono fun _ _ h => ⟨h.1, n, h.2⟩
end Go.Mv
namespace Mvp
def kK (i : Nat) : Nat := i / 5 + 5 * ((2 * (i % 5) + 3 * (i / 5)) % 5)
def yG (s c : List UInt64) (i : Nat) : List UInt64 := c.set (i % 5) (c.getD (i % 5) 0 ^^^ s.getD i 0)
def d0M (s : List UInt64) (k : Nat) : List UInt64 := (List.range k).foldl (yG s) [0, 0, 0, 0, 0]
def yH (s col : List UInt64) (by_ : List Nat) (m : List UInt64) (i : Nat) : List UInt64 :=
 m.set (kK i) (c0u (s.getD i 0 ^^^ (col.getD ((i + 4) % 5) 0 ^^^ c0u (col.getD ((i + 1) % 5) 0) 1)) (by_.getD i 0))
def f0r (s col : List UInt64) (by_ : List Nat) (k : Nat) : List UInt64 := (List.range k).foldl (yH s col by_) (List.replicate 25 0)
def sU (m : List UInt64) (y : Nat) (s : List UInt64) (x : Nat) : List UInt64 :=
 s.set (y + x) (m.getD (y + x) 0 ^^^ (~~~ (m.getD (y + (x + 1) % 5) 0) &&& m.getD (y + (x + 2) % 5) 0))
def kL (m s : List UInt64) (y k : Nat) : List UInt64 := (List.range k).foldl (sU m y) s
def a0F (m s : List UInt64) (k : Nat) : List UInt64 := (List.range k).foldl (fun s y => kL m s (5 * y) 5) s
def sV (by_ : List Nat) (s : List UInt64) (c : UInt64) : List UInt64 :=
 let t := a0F (f0r s (d0M s 25) by_ 25) s 5
 t.set 0 (t.getD 0 0 ^^^ c)
def dD (by_ : List Nat) (rc : Nat → UInt64) (s : List UInt64) (k : Nat) : List UInt64 := (List.range k).foldl (fun s r => sV by_ s (rc r)) s
def dC (x y : Nat) : Nat := x % 5 + 5 * (y % 5)
def rR (s : List UInt64) (x : Nat) (c : List UInt64) (y : Nat) : List UInt64 := c.set x (c.getD x 0 ^^^ s.getD (dC x y) 0)
def fX (s c : List UInt64) (x k : Nat) : List UInt64 := (List.range k).foldl (rR s x) c
def vQ (s : List UInt64) (k : Nat) : List UInt64 := (List.range k).foldl (fun c x => fX s c x 5) [0, 0, 0, 0, 0]
def rS (s : List UInt64) (turn : List Nat) (x : Nat) (d : UInt64) (m : List UInt64) (y : Nat) : List UInt64 :=
 m.set (dC y (2 * x + 3 * y)) (c0u (s.getD (dC x y) 0 ^^^ d) (turn.getD (dC x y) 0))
def iL (s : List UInt64) (turn : List Nat) (m : List UInt64) (x : Nat) (d : UInt64) (k : Nat) : List UInt64 := (List.range k).foldl (rS s turn x d) m
def dR (col : List UInt64) (x : Nat) : UInt64 := col.getD ((x + 4) % 5) 0 ^^^ c0u (col.getD ((x + 1) % 5) 0) 1
def a0G (s : List UInt64) (turn : List Nat) (col : List UInt64) (k : Nat) : List UInt64 := (List.range k).foldl (fun m x => iL s turn m x (dR col x) 5) (List.replicate 25 0)
def rT (m : List UInt64) (x : Nat) (o : List UInt64) (y : Nat) : List UInt64 :=
 o.set (dC x y) (m.getD (dC x y) 0 ^^^ (~~~ (m.getD (dC (x + 1) y) 0) &&& m.getD (dC (x + 2) y) 0))
def iM (m o : List UInt64) (x k : Nat) : List UInt64 := (List.range k).foldl (rT m x) o
def a0H (m : List UInt64) (k : Nat) : List UInt64 := (List.range k).foldl (fun o x => iM m o x 5) (List.replicate 25 0)
def oK (turn : List Nat) (s : List UInt64) (c : UInt64) : List UInt64 :=
 let t := a0H (a0G s turn (vQ s 5) 5) 5
 t.set 0 (t.getD 0 0 ^^^ c)
def nJ (turn : List Nat) (rc : Nat → UInt64) (s : List UInt64) (k : Nat) : List UInt64 := (List.range k).foldl (fun s r => oK turn s (rc r)) s
theorem q0g (s : List UInt64) (h : s.length = 25) : ∃ a0 a1 a2 a3 a4 a5 a6 a7 a8 a9 a10 a11 a12 a13 a14 a15 a16 a17 a18 a19 a20 a21 a22 a23 a24, s = [a0, a1, a2, a3, a4, a5, a6, a7, a8, a9, a10, a11, a12, a13, a14, a15, a16, a17, a18, a19, a20, a21, a22, a23, a24] := by
 match s, h with
 | [a0, a1, a2, a3, a4, a5, a6, a7, a8, a9, a10, a11, a12, a13, a14, a15, a16, a17, a18, a19, a20, a21, a22, a23, a24], _ => exact ⟨_, _, _, _, _, _, _, _, _, _, _, _, _, _, _, _, _, _, _, _, _, _, _, _, _, rfl⟩
theorem k0m (s : List UInt64) (h : s.length = 25) : d0M s 25 = vQ s 5 := by
 obtain ⟨a0, a1, a2, a3, a4, a5, a6, a7, a8, a9, a10, a11, a12, a13, a14, a15, a16, a17, a18, a19, a20, a21, a22, a23, a24, rfl⟩ := q0g s h
 kernel_rfl
theorem k0n (s col : List UInt64) (t : List Nat) : f0r s col t 25 = a0G s t col 5 := by
 kernel_rfl
theorem k0o (m s : List UInt64) (h : s.length = 25) : a0F m s 5 = a0H m 5 := by
 obtain ⟨a0, a1, a2, a3, a4, a5, a6, a7, a8, a9, a10, a11, a12, a13, a14, a15, a16, a17, a18, a19, a20, a21, a22, a23, a24, rfl⟩ := q0g s h
 kernel_rfl
theorem f0s (t : List Nat) (s : List UInt64) (c : UInt64) (h : s.length = 25) : sV t s c = oK t s c := by
 unfold sV oK
 rw [k0m s h, k0n, k0o _ s h]
theorem a0I {α β : Type} (P : α → Prop) (f : α → β → α) (hf : ∀ a b, P a → P (f a b)) (l : List β) : ∀ a, P a → P (l.foldl f a) := by
 induction l with
 | nil => intro a h; exact h
 | cons b l ih => intro a h; exact ih _ (hf _ _ h)
theorem yI (m s : List UInt64) (k : Nat) : (a0F m s k).length = s.length := by
 refine a0I (fun l : List UInt64 => l.length = s.length) _ (fun a y h => ?_) _ _ rfl
 refine a0I (fun l : List UInt64 => l.length = s.length) _ (fun b x h => ?_) _ _ h
 simp [sU, h]
theorem f0t (t : List Nat) (s : List UInt64) (c : UInt64) : (sV t s c).length = s.length := by simp [sV, yI]
theorem qI (t : List Nat) (rc : Nat → UInt64) (s : List UInt64) (k : Nat) : dD t rc s (k + 1) = sV t (dD t rc s k) (rc k) := by
 simp [dD, List.range_succ]
theorem qJ (t : List Nat) (rc : Nat → UInt64) (s : List UInt64) (k : Nat) : nJ t rc s (k + 1) = oK t (nJ t rc s k) (rc k) := by
 simp [nJ, List.range_succ]
theorem sW (t : List Nat) (rc : Nat → UInt64) (s : List UInt64) (k : Nat) : (dD t rc s k).length = s.length := by
 induction k with
 | zero => simp [dD]
 | succ k ih => rw [qI, f0t, ih]
theorem h0d (t : List Nat) (rc rc' : Nat → UInt64) (s : List UInt64) (h : s.length = 25) (n : Nat) (hrc : ∀ r, r < n → rc r = rc' r) : dD t rc s n = nJ t rc' s n := by
 induction n with
 | zero => simp [dD, nJ]
 | succ k ih =>
  rw [qI, qJ, ← ih (fun r hr => hrc r Ab), hrc k Ab]
  exact f0s _ _ _ (by rw [sW, h])
def c0x : Nat → Nat
 | 0 => 1
 | n + 1 => if 2 * c0x n > 255 then (2 * c0x n) ^^^ 369 else 2 * c0x n
theorem n0I (n : Nat) : c0x n < 256 := by
 have h : ∀ r, r < 256 → (if 2 * r > 255 then (2 * r) ^^^ 369 else 2 * r) < 256 := by decide +kernel
 induction n with
 | zero => decide
 | succ n ih => exact h _ ih
def t0j (t : Nat) : Nat := c0x t % 2
def s0s (t : Nat) : UInt64 := UInt64.ofNat (t0j t)
def oL (r : Nat) (out : UInt64) (j : Nat) : UInt64 := out ||| shl (s0s (j + 7 * r)) (2 ^ j - 1)
def rcR (r k : Nat) : UInt64 := (List.range k).foldl (oL r) 0
def c0y : List Nat := [
 0, 0, 0, 0, 0, 0, 0, 1, 0, 0, 0, 0, 0, 0, 0x80, 0x82, 0x80, 0, 0, 0, 0, 0, 0x80, 0x8a, 0x80, 0, 0, 0, 0x80, 0, 0x80, 0,
 0, 0, 0, 0, 0, 0, 0x80, 0x8b, 0, 0, 0, 0, 0x80, 0, 0, 1, 0x80, 0, 0, 0, 0x80, 0, 0x80, 0x81, 0x80, 0, 0, 0, 0, 0, 0x80, 9,
 0, 0, 0, 0, 0, 0, 0, 0x8a, 0, 0, 0, 0, 0, 0, 0, 0x88, 0, 0, 0, 0, 0x80, 0, 0x80, 9, 0, 0, 0, 0, 0x80, 0, 0, 0xa,
 0, 0, 0, 0, 0x80, 0, 0x80, 0x8b, 0x80, 0, 0, 0, 0, 0, 0, 0x8b, 0x80, 0, 0, 0, 0, 0, 0x80, 0x89, 0x80, 0, 0, 0, 0, 0, 0x80, 3,
 0x80, 0, 0, 0, 0, 0, 0x80, 2, 0x80, 0, 0, 0, 0, 0, 0, 0x80, 0, 0, 0, 0, 0, 0, 0x80, 0xa, 0x80, 0, 0, 0, 0x80, 0, 0, 0xa,
 0x80, 0, 0, 0, 0x80, 0, 0x80, 0x81, 0x80, 0, 0, 0, 0, 0, 0x80, 0x80, 0, 0, 0, 0, 0x80, 0, 0, 1, 0x80, 0, 0, 0, 0x80, 0, 0x80, 8]
def c0z (r : Nat) (c : UInt64) (n : Nat) : UInt64 := shl c 8 ||| (UInt8.ofNat (c0y.getD (8 * r + n) 0)).toUInt64
def rcP (r k : Nat) : UInt64 := (List.range k).foldl (c0z r) 0
theorem n0J : ∀ r, r < 24 → rcP r 8 = rcR r 7 := by decide +kernel
def xy : Nat → Nat × Nat
 | 0 => (1, 0)
 | t + 1 => ((xy t).2, (2 * (xy t).1 + 3 * (xy t).2) % 5)
def oM (l : List Nat) (t : Nat) : List Nat := l.set ((xy t).1 + 5 * (xy t).2) ((t + 1) * (t + 2) / 2 % 64)
def aW (k : Nat) : List Nat := (List.range k).foldl oM (List.replicate 25 0)
theorem _root_.Ac {p : Prop} (h : p := by decide) : p := h
theorem q0h (t : Nat) : (xy t).1 < 5 ∧ (xy t).2 < 5 := by
 induction t with
 | zero => decide
 | succ t ih => exact ⟨ih.2, Nat.mod_lt _ Ac⟩
def fQ (s : List UInt64) (i : Nat) (x : UInt8) : List UInt64 := s.set (i / 8) (wx (s.getD (i / 8) 0) (shl (wid x) (8 * (i % 8))))
def oN (s : List UInt64) (b : List UInt8) (k : Nat) : List UInt64 := (List.range k).foldl (fun s i => fQ s i (b.getD i 0)) s
def kM (s : List UInt64) (i : Nat) : UInt8 := lo8 (shr (s.getD (i / 8) 0) (8 * (i % 8)))
def toB (s : List UInt64) (n : Nat) : List UInt8 := (List.range n).map (kM s)
theorem mC (s : List UInt64) (b : List UInt8) (k : Nat) : oN s b (k + 1) = fQ (oN s b k) k (b.getD k 0) := by simp [oN, List.range_succ]
theorem rU (s : List UInt64) (b : List UInt8) (k : Nat) : (oN s b k).length = s.length := by
 induction k with
 | zero => simp [oN]
 | succ k ih => rw [mC]; simp [fQ, ih]
theorem eC (s : List UInt64) (n : Nat) : (toB s n).length = n := by simp [toB]
end Mvp
namespace Go.Proofs.YtemcankmggmgoaaGreat
section
open Go.RowKit Go.Mv Mvp
theorem yJ {k : IntKind} {a b : Int} (h : a = b) : Ending.returned (.int k a) = .returned (.int k b) := by rw [h]
theorem k0p (x : UInt64) (k : Nat) (hk : k < 64) : wo (shl x (k % 64)) (shr x (64 - k % 64)) = c0u x k := by
 rw [Nat.mod_eq_of_lt hk]; rfl
theorem h0e (x : UInt64) (k : Nat) (hk : k < 64) (w : World) :
  Calls prog 208 #[.int .u64 (x.toNat : Int), .int .i64 (k : Int)] w fun e w' => e = .returned (.int .u64 ((c0u x k).toNat : Int)) ∧ w = w' := by
 go_enter func208, ntmps208
 go_wp2
 go_ret
 exact ⟨yJ (by rw [← k0p x k hk]), rfl⟩
theorem d0N (x : UInt64) (k : Nat) (hk : k < 64) (w : World) :
  Calls prog 212 #[.int .u64 (x.toNat : Int), .int .i64 (k : Int)] w fun e w' => e = .returned (.int .u64 ((c0u x k).toNat : Int)) ∧ ∃ n, w' = w.drewN n := by
 go_enter func212, ntmps212
 go_wp2
 go_quiet (fail)
 go_wp2
 go_ret
 exact ⟨rfl, nq, rfl⟩
theorem sX (x y : Int) (w : World) (hx : 0 ≤ x) (hx' : x ≤ 1000) (hy : 0 ≤ y) (hy' : y ≤ 1000) :
  Calls prog 211 #[.int .i64 x, .int .i64 y] w fun e w' => e = .returned (.int .i64 ((dC x.toNat y.toNat : Nat) : Int)) ∧ w = w' := by
 go_enter func211, ntmps211
 go_wp2
 go_ret
 exact ⟨yJ (by unfold dC; omega), rfl⟩
theorem f0u (i : Nat) (w : World) (hi : i ≤ 1000) :
  Calls prog 209 #[.int .i64 (i : Int)] w fun e w' => e = .returned (.int .i64 ((kK i : Nat) : Int)) ∧ w = w' := by
 go_enter func209, ntmps209
 go_wp2
 go_ret
 exact ⟨yJ (by unfold kK; omega), rfl⟩
theorem n0K (t : Int) (w : World) (hx : 0 ≤ t) (hx' : t ≤ 1000) :
  Calls prog 213 #[.int .i64 t] w fun e w' => e = .returned (.int .u64 ((s0s t.toNat).toNat : Int)) ∧ w = w' := by
 go_enter func213, ntmps213
 go_wp2
 go_loop [3, 4] (fun r i => ∃ k : Nat, (k : Int) ≤ t ∧ i = .int .i64 k ∧ r = .int .i64 (c0x k : Nat)) (fun _ i => (t - intOf i).toNat)
 case atStart => exact ⟨0, by omega, rfl, rfl⟩
 case round =>
  obtain ⟨k, hk, rfl, rfl⟩ := hrel
  have hb := n0I k
  by_cases hlt : (k : Int) < t
  ·by_cases hc : 255 < 2 * c0x k
   ·go_wp2
    go_round
    case rel =>
     refine ⟨k + 1, by omega, by go_num, ?_⟩
     have e := n0D (2 * c0x k) 369 Ab Ab
     have e2 : c0x (k + 1) = (2 * c0x k) ^^^ 369 := by rw [c0x, if_pos hc]
     rw [e2, ← e]; rfl
    case measure => simp [intOf]; omega
   ·go_wp2
    go_round
    case rel =>
     refine ⟨k + 1, by omega, by go_num, ?_⟩
     have e2 : c0x (k + 1) = 2 * c0x k := by rw [c0x, if_neg hc]
     rw [e2]; simp
    case measure => simp [intOf]; omega
  ·go_wp2
   go_ret
   have hkt : t.toNat = k := by omega
   refine ⟨yJ ?_, rfl⟩
   have e := n0E (c0x k) 1 Ab Ab
   rw [show (1 : Int) = ((1 : Nat) : Int) from rfl, e, IntKind.wrap_u64, hkt, s0s, t0j, nat_mask1]
   simp
end
section
open Go.RowKit Go.Mv Mvp
theorem k0q (r k : Nat) : rcP r (k + 1) = c0z r (rcP r k) k := by simp [rcP, List.range_succ]
theorem kY (r k : Nat) : rcR r (k + 1) = oL r (rcR r k) k := by simp [rcR, List.range_succ]
theorem _root_.An {p : Prop} (h : p := by decide +kernel) : p := h
theorem f0v (r : Nat) (hr : r < 24) (w : World) :
  Calls prog 210 #[.int .i64 (r : Int)] w fun e w' => e = .returned (.int .u64 ((rcP r 8).toNat : Int)) ∧ w = w' := by
 go_enter func210, ntmps210
 go_wp2
 go_loop [2, 4] (fun c i => ∃ k : Nat, k ≤ 8 ∧ i = .int .i64 k ∧ c = .int .u64 ((rcP r k).toNat : Int)) (fun _ i => (8 - intOf i).toNat)
 case atStart => exact ⟨0, by omega, rfl, rfl⟩
 case round =>
  obtain ⟨k, hk, rfl, rfl⟩ := hrel
  by_cases hlt : k < 8
  ·go_wp2_with (first | (with_reducible refine AA 13 ?_))
   refine a0E rfl rfl underlying9 rfl rfl (8 * r + k) Ae ?_ (UInt8.ofNat (c0y.getD (8 * r + k) 0)) ?_ ?_
   ·exact Nat.lt_of_lt_of_le (show 8 * r + k < 192 by omega) An
   ·generalize hj : 8 * r + k = j
    have hj' : j < 192 := by omega
    clear hj
    revert j
    decide +kernel
   generalize hy : UInt8.ofNat (c0y.getD (8 * r + k) 0) = y
   have HY := qH hy; clear hy
   go_wp2
   go_round
   case rel => exact ⟨k + 1, by omega, by go_num, by rw [k0q, c0z, HY.out]; rfl⟩
   case measure => simp [intOf]; omega
  ·go_wp2
   go_ret
   have : k = 8 := by omega
   subst this
   exact ⟨rfl, rfl⟩
theorem f0w (r : Nat) (hr : r < 24) (w : World) :
  Calls prog 205 #[.int .i64 (r : Int)] w fun e w' => e = .returned (.int .u64 ((rcR r 7).toNat : Int)) ∧ w = w' := by
 go_enter func205, ntmps205
 go_wp2
 go_loop [3, 4] (fun c i => ∃ k : Nat, k ≤ 7 ∧ i = .int .i64 k ∧ c = .int .u64 ((rcR r k).toNat : Int)) (fun _ i => (7 - intOf i).toNat)
 case atStart => exact ⟨0, by omega, rfl, rfl⟩
 case round =>
  obtain ⟨k, hk, rfl, rfl⟩ := hrel
  by_cases hlt : k < 7
  ·obtain rfl | rfl | rfl | rfl | rfl | rfl | rfl : k = 0 ∨ k = 1 ∨ k = 2 ∨ k = 3 ∨ k = 4 ∨ k = 5 ∨ k = 6 := by omega
   all_goals
    go_wp2_with fail
    refine (n0K _ _ Ab Ab).mono ?_
    rintro e w' ⟨rfl, rfl⟩
    go_wp2
    go_round
   case rel => exact ⟨1, by omega, by go_num, by rw [kY, oL, Nat.zero_add]; rfl⟩
   case measure => simp [intOf]
   case rel => exact ⟨2, by omega, by go_num, by rw [kY, oL]; rfl⟩
   case measure => simp [intOf]
   case rel => exact ⟨3, by omega, by go_num, by rw [kY, oL]; rfl⟩
   case measure => simp [intOf]
   case rel => exact ⟨4, by omega, by go_num, by rw [kY, oL]; rfl⟩
   case measure => simp [intOf]
   case rel => exact ⟨5, by omega, by go_num, by rw [kY, oL]; rfl⟩
   case measure => simp [intOf]
   case rel => exact ⟨6, by omega, by go_num, by rw [kY, oL]; rfl⟩
   case measure => simp [intOf]
   case rel => exact ⟨7, by omega, by go_num, by rw [kY, oL]; rfl⟩
   case measure => simp [intOf]
  ·go_wp2
   go_ret
   have : k = 7 := by omega
   subst this
   exact ⟨rfl, rfl⟩
end
end Go.Proofs.YtemcankmggmgoaaGreat
namespace Go.Mv
open Go.RowKit
variable {P : Program}
theorem Has.setCells {g : Nat} {T : TypeId} : ∀ (cs : List Value) (o : Nat) (L : List Value) (w : World), Has w g L T → o + cs.length ≤ L.length → Has (w.setCells g o cs) g (splice L o cs) T ∧ Fr (One g) w (w.setCells g o cs) ∧ (w.setCells g o cs).heap.size = w.heap.size
 | [], o, L, w, h, _ => ⟨by rw [wO]; exact h, Fr.refl _ _, rfl⟩
 | v :: cs, o, L, w, h, hl => by
  simp only [List.length_cons] at hl
  obtain ⟨h1, h2, h3⟩ := Has.setCells cs (o + 1) (L.set o v) (w.setCell ⟨g, o, none⟩ v) (h.set o v) Ao
  rw [sQ L o v cs Ab] at h1
  refine ⟨h1, ((Fr.refl (One g) w).setCell g o none v (fun _ => rfl)).trans h2 (fun _ _ t => t), ?_⟩
  show ((w.setCell ⟨g, o, none⟩ v).setCells g (o + 1) cs).heap.size = _
  rw [h3]; simp [World.setCell]
theorem Has.range {w : World} {g : Nat} {L : List Value} {T : TypeId} (h : Has w g L T) (o : Nat) (cs : List Value) (hcs : (L.drop o).take cs.length = cs) : w.rangeAt g o cs := by
 intro j v hv
 rw [h.get]
 have : j < cs.length := by
  rcases Nat.lt_or_ge j cs.length with k | k
  ·exact k
  ·simp [List.getElem?_eq_none k] at hv
 rw [← hcs, List.getElem?_take, if_pos this, List.getElem?_drop] at hv
 exact hv
theorem Has.there {w : World} {g : Nat} {L : List Value} {T : TypeId} (h : Has w g L T) (o n : Nat) (hn : o + n ≤ L.length) : w.there g o n := by
 intro j hj
 obtain ⟨v, h1, h2⟩ := h.ready (i := o + j) Ab
 exact ⟨by rw [h1]; rfl, h2⟩
section
variable {w : World} {ops : Array Oper} {rest : List Oper} {o : Oper} {a : Act} {Q : Exit → Act → World → Prop}
theorem fA {ty : TypeId} {x : Operand} (hgd : o.guard = none) (ho : o.op = .load ty x) {n : Nat} {e : TypeId} (hu : P.underlying ty = some (.array n e)) {g p : Nat} (hx : a.eval x = .pointer (some ⟨g, p, none⟩))
  {L : List Value} {T : TypeId} (hg : Has w g L T) (cs : List Value) (hcs : (L.drop p).take cs.length = cs) (hi : (P.info? ty).map (·.size) = some cs.length)
  (h : wpList P ops Q rest (a.put o.dst (.agg cs.toArray)) w) : wpList P ops Q (o :: rest) a w :=
 wpList_load_mid hgd ty x ho g p hx cs _ (hg.range p cs hcs) hu rfl hi h
theorem iE {ty : TypeId} {x y : Operand} (hgd : o.guard = none) (ho : o.op = .store ty x y) {g p : Nat} (hx : a.eval x = .pointer (some ⟨g, p, none⟩)) {cs : List Value} (hy : a.eval y = .agg cs.toArray)
  {L : List Value} {T : TypeId} (hg : Has w g L T) (hn : p + cs.length ≤ L.length) (hi : (P.info? ty).map (·.size) = some cs.length) (h1 : ∀ v ∈ cs, v.oneCell' = true)
  (h : ∀ w', Has w' g (splice L p cs) T → Fr (One g) w w' → w'.heap.size = w.heap.size → wpList P ops Q rest (a.put o.dst undef) w') : wpList P ops Q (o :: rest) a w := by
 obtain ⟨k1, k2, k3⟩ := Has.setCells cs p L w hg hn
 exact wpList_store_mid hgd ty x y ho g p cs.toArray hx hy (by simpa using hg.there p cs.length hn) (by simpa using hi) (all_oneCell_toArray h1) (by simpa using h _ k1 k2 k3)
end
theorem gC (L cs : List Value) (h : cs.length = L.length) : splice L 0 cs = cs := by
 simp [splice, h]
theorem aX {fn : Func} {p : Tmp} {ty : TypeId} (h : fn.results = #[.cell p ty]) {tmps : Array Value} {w : World} {g : Nat} {L : List Value} {T : TypeId}
  (hp : tmps.getD p undef = .pointer (some ⟨g, 0, none⟩)) (hg : Has w g L T) {n : Nat} {e : TypeId} (hu : P.underlying ty = some (.array n e)) (hi : (P.info? ty).map (·.size) = some L.length) :
  (results fn tmps).run P w = .ok (.agg L.toArray) w := by
 obtain ⟨lo, hi', hh, -⟩ := hg
 exact results_cell_row h tmps w g T L.toArray _ _ hp hh hu rfl (by simpa using hi)
open Mvp in
theorem Has.fillB {w : World} {g : Nat} {T : TypeId} {F I : List UInt8} {k : Nat} (h : Has w g (bs (fill F I k)) T) (hl : F.length = I.length) (hk : k < F.length) : Has (w.setCell ⟨g, k, none⟩ (.int .u8 ((F.getD k 0).toNat : Int))) g (bs (fill F I (k + 1))) T := by
 have := h.set k (.int .u8 ((F.getD k 0).toNat : Int))
 rwa [bs_set, d0L _ _ _ hl hk] at this
section
variable {w : World} {ops : Array Oper} {rest : List Oper} {o : Oper} {a : Act} {Q : Exit → Act → World → Prop}
theorem kZ {e : TypeId} (hgd : o.guard = none) (ho : o.op = .alloc e) {z : Value} (hi : (P.info? e).map (·.zero) = some (some z)) (L : List Value) (hL : z.cells.toList = L)
  (h : ∀ w', Has w' w.heap.size L e → Fr Nob w w' → w'.heap.size = w.heap.size + 1 → wpList P ops Q rest (a.put o.dst (.pointer (some ⟨w.heap.size, 0, none⟩))) w') : wpList P ops Q (o :: rest) a w := by
 refine wpList_plain hgd fun K hK => ?_
 obtain ⟨i, hi1, hz⟩ : ∃ i, P.info? e = some i ∧ i.zero = some z := by simpa using hi
 have hr : (Instr.alloc e true (.tuple #[])).run P w = .ok (.pointer (some ⟨w.heap.size, 0, none⟩)) (w.alloc (.cells z.cells e)) := by
  simp [Instr.alloc, zeroValue, typeInfo, hi1, hz, newVar, newRow]
 unfold Oper.wp execOp
 simp only [ho, Sem.run_bind, Sem.run_pure, Result.andThen_ok, hr]
 refine hK _ _ (h _ ?_ ((Fr.refl _ w).alloc _) Ae)
 have := Has.new w z.cells e
 rwa [hL] at this
end
section
variable {w : World} {ops : Array Oper} {rest : List Oper} {o : Oper} {a : Act} {Q : Exit → Act → World → Prop}
theorem cV (k : IntKind) (n y : Nat) (code : BoundsCode) (h : n ≤ y) : (Instr.sliceBound (.int k (n : Int)) y code).run P w = .ok n w := by
 have : ((n : Int) ≤ (y : Int)) := by omega
 simp [Instr.sliceBound, asIntOf, this]
theorem n0L {ty : TypeId} {x lo hi mx : Operand} (hgd : o.guard = none) (ho : o.op = .slice ty x (some lo) (some hi) (some mx)) {n : Nat} {e : TypeId} (hu : P.underlying ty = some (.array n e)) (hsz : (P.info? e).map (·.size) = some 1)
  {g p : Nat} (hx : a.eval x = .pointer (some ⟨g, p, none⟩)) {kl kh km : IntKind} {il ih im : Int} (hl : a.eval lo = .int kl il) (hh : a.eval hi = .int kh ih) (hm : a.eval mx = .int km im)
  (l h m : Nat) (el : il = l) (eh : ih = h) (em : im = m) (h1 : l < m) (h2 : l ≤ h) (h3 : h ≤ m) (h4 : m ≤ n)
  (hK : wpList P ops Q rest (a.put o.dst (.slice (some ⟨g, p + l, none⟩) (h - l) (m - l))) w) : wpList P ops Q (o :: rest) a w := by
 refine wpList_plain hgd fun K hK' => ?_
 obtain ⟨i, hi1, hi2⟩ : ∃ i, P.info? e = some i ∧ i.size = 1 := by simpa using hsz
 subst el eh em
 have hr : (Instr.sliceAt ty (.pointer (some ⟨g, p, none⟩)) (some (.int kl (l : Int))) (some (.int kh (h : Int))) (some (.int km (m : Int)))).run P w = .ok (.slice (some ⟨g, p + l, none⟩) (h - l) (m - l)) w := by
  have hne : ¬ m = l := by omega
  simp [Instr.sliceAt, run_underlying hu, Instr.sliceBounds, cV, h2, h3, h4, sizeOf, typeInfo, hi1, hi2, hne, hH, Instr.sureAddr]
 unfold Oper.wp execOp
 simp only [ho, hx, hl, hh, hm, Option.map_some, Sem.run_bind, Sem.run_pure, Result.andThen_ok, hr]
 exact hK' _ _ hK
def fY (p : Option Addr) (l m : Nat) : Option Addr := if m = l then p else p.map (·.add l)
theorem yK {w : World} {p : Option Addr} {n : Nat} {vs : List Value} (hr : Rd w p n vs) (l h m : Nat) (h2 : l ≤ h) (h3 : h ≤ m) (h4 : h ≤ n) : Rd w (fY p l m) (h - l) ((vs.drop l).take (h - l)) := by
 have hlen := hr.len
 refine ⟨by simp; omega, ?_⟩
 rcases Nat.eq_zero_or_pos (h - l) with h0 | h0
 ·exact .inl h0
 ·obtain ⟨b, o, rfl, hc⟩ := hr.at Ab
  refine .inr ⟨b, o + l, ?_, hc.sub l (h - l)⟩
  simp [fY, show ¬ m = l by omega, hH]
theorem c0A {p : Option Addr} {l m : Nat} {x : Addr} (h : fY p l m = some x) : ∃ y, p = some y ∧ y.block = x.block := by
 unfold fY at h
 split at h
 ·exact ⟨x, h, rfl⟩
 ·cases p with
  | none => cases h
  | some y =>
   refine ⟨y, rfl, ?_⟩
   simp only [Option.map_some, Option.some.injEq] at h
   subst h
   unfold Addr.add
   split <;> rfl
theorem h0f {S : Nat → Prop} {p : Option Addr} (h : Off S p) (l m : Nat) : Off S (fY p l m) := by
 intro x hx
 obtain ⟨y, hy, e⟩ := c0A hx
 rw [← e]; exact h y hy
theorem qZ {ty : TypeId} {x : Operand} {lo hi : Option Operand} (hgd : o.guard = none) (ho : o.op = .slice ty x lo hi none) {e : TypeId} (hu : P.underlying ty = some (.slice e)) (hsz : (P.info? e).map (·.size) = some 1)
  {p : Option Addr} {n c : Nat} (hx : a.eval x = .slice p n c) (l h : Nat) (hl : lo.elim (l = 0) (fun y => ∃ k, a.eval y = .int k (l : Int))) (hh : hi.elim (h = n) (fun y => ∃ k, a.eval y = .int k (h : Int))) (h2 : l ≤ h) (h3 : h ≤ c)
  (hK : wpList P ops Q rest (a.put o.dst (.slice (fY p l c) (h - l) (c - l))) w) : wpList P ops Q (o :: rest) a w := by
 refine wpList_plain hgd fun K hK' => ?_
 obtain ⟨i, hi1, hi2⟩ : ∃ i, P.info? e = some i ∧ i.size = 1 := by simpa using hsz
 have hr : (Instr.sliceAt ty (.slice p n c) (lo.map a.eval) (hi.map a.eval) none).run P w = .ok (.slice (fY p l c) (h - l) (c - l)) w := by
  cases lo with
  | none =>
   simp only [Option.elim] at hl
   subst hl
   cases hi with
   | none =>
    simp only [Option.elim] at hh
    subst hh
    simp [Instr.sliceAt, Instr.slice, run_underlying hu, Instr.sliceBounds, sizeOf, typeInfo, hi1, fY]
   | some y =>
    obtain ⟨k, hk⟩ := hh
    simp [Instr.sliceAt, Instr.slice, run_underlying hu, Instr.sliceBounds, cV, h3, sizeOf, typeInfo, hi1, fY, hk]
  | some z =>
   obtain ⟨kz, hkz⟩ := hl
   cases hi with
   | none =>
    simp only [Option.elim] at hh
    subst hh
    simp [Instr.sliceAt, Instr.slice, run_underlying hu, Instr.sliceBounds, cV, h2, sizeOf, typeInfo, hi1, hi2, fY, hkz]
   | some y =>
    obtain ⟨k, hk⟩ := hh
    simp [Instr.sliceAt, Instr.slice, run_underlying hu, Instr.sliceBounds, cV, h2, h3, sizeOf, typeInfo, hi1, hi2, fY, hk, hkz]
 unfold Oper.wp execOp
 simp only [ho, hx, Option.map_none, Sem.run_bind, Sem.run_pure, Result.andThen_ok, hr]
 exact hK' _ _ hK
theorem n0M {ty : TypeId} {x : Operand} {lo : Option Operand} {hi mx : Operand} (hgd : o.guard = none) (ho : o.op = .slice ty x lo (some hi) (some mx)) {e : TypeId} (hu : P.underlying ty = some (.slice e)) (hsz : (P.info? e).map (·.size) = some 1)
  {p : Option Addr} {n c : Nat} (hx : a.eval x = .slice p n c) (l h m : Nat) (hl : lo.elim (l = 0) (fun y => ∃ k, a.eval y = .int k (l : Int))) {kh km : IntKind} {ih im : Int} (hh : a.eval hi = .int kh ih) (hm : a.eval mx = .int km im) (eh : ih = h) (em : im = m) (h2 : l ≤ h) (h3 : h ≤ m) (h4 : m ≤ c)
  (hK : wpList P ops Q rest (a.put o.dst (.slice (fY p l m) (h - l) (m - l))) w) : wpList P ops Q (o :: rest) a w := by
 refine wpList_plain hgd fun K hK' => ?_
 obtain ⟨i, hi1, hi2⟩ : ∃ i, P.info? e = some i ∧ i.size = 1 := by simpa using hsz
 subst eh em
 have hr : (Instr.sliceAt ty (.slice p n c) (lo.map a.eval) (some (a.eval hi)) (some (a.eval mx))).run P w = .ok (.slice (fY p l m) (h - l) (m - l)) w := by
  cases lo with
  | none =>
   simp only [Option.elim] at hl
   subst hl
   simp [Instr.sliceAt, Instr.slice, run_underlying hu, Instr.sliceBounds, cV, h3, h4, sizeOf, typeInfo, hi1, fY, hh, hm]
  | some z =>
   obtain ⟨kz, hkz⟩ := hl
   simp [Instr.sliceAt, Instr.slice, run_underlying hu, Instr.sliceBounds, cV, h2, h3, h4, sizeOf, typeInfo, hi1, hi2, fY, hkz, hh, hm]
 unfold Oper.wp execOp
 simp only [ho, hx, Option.map_some, Sem.run_bind, Sem.run_pure, Result.andThen_ok, hr]
 exact hK' _ _ hK
end
theorem Rd.lt {w : World} {b o n : Nat} {vs : List Value} (h : Rd w (some ⟨b, o, none⟩) n vs) (hn : 0 < n) : b < w.heap.size := by
 obtain ⟨b', o', he, hc⟩ := h.at hn
 simp only [Option.some.injEq, Addr.mk.injEq] at he
 obtain ⟨rfl, rfl, -⟩ := he
 have := hc.cell (i := 0) (by rw [h.len]; exact hn)
 exact block_lt_of_cell this
theorem f0x (w : World) (g i : Nat) (v : Value) (b j : Nat) (h : b ≠ g) : (w.setCell ⟨g, i, none⟩ v).cell? ⟨b, j, none⟩ = w.cell? ⟨b, j, none⟩ :=
 World.cell?_of_block (a := ⟨b, j, none⟩) (heap_setCell_other w ⟨g, i, none⟩ b v h)
end Go.Mv
namespace Go.Proofs.YtemcankmggmgoaaGreat
section
open Go.RowKit Go.Mv Mvp
theorem h0g : (prog.info? 248).map (·.size) = some 25 := by kernel_rfl
theorem k0r : (prog.info? 3).map (fun i => (i.zero, i.size, i.bytes)) = some (some (.int .i64 0), 1, 8) := by kernel_rfl
theorem nY (k : Nat) : aW (k + 1) = oM (aW k) k := by simp [aW, List.range_succ]
theorem fI (k : Nat) : (aW k).length = 25 := by
 induction k with
 | zero => simp [aW]
 | succ k ih => rw [nY]; simp [oM, ih]
theorem _root_.Bx {p : Prop} (h : p := by rw [kI, fI]; exact h0g) : p := h
theorem h0h (w : World) :
  Calls prog 207 #[] w fun e w' => e = .returned (.agg (is (aW 24)).toArray) ∧ Fr Nob w w' := by
 go_enter func207, ntmps207
 go_wp2
 go_loopw [1, 2, 4] (fun x y i wr => ∃ k : Nat, k ≤ 24 ∧ i = .int .i64 k ∧ x = .int .i64 ((xy k).1 : Nat) ∧ y = .int .i64 ((xy k).2 : Nat) ∧ Has wr w.heap.size (is (aW k)) 248 ∧ Fr Nob w wr) (fun _ _ i _ => (24 - intOf i).toNat)
 case atStart =>
  refine ⟨0, by omega, rfl, rfl, rfl, ?_, (Fr.refl _ _).alloc _⟩
  exact Has.new w _ _
 case round =>
  obtain ⟨k, hk, rfl, rfl, rfl, hh, hf⟩ := hrel
  have hxy := q0h k
  by_cases hlt : k < 24
  ·obtain ⟨v0, hc, hfr⟩ := hh.ready (i := (xy k).1 + 5 * (xy k).2) (by rw [kI, fI]; omega)
   have hp : (0 : Int) ≤ ((k : Int) + 1) * ((k : Int) + 2) ∧ ((k : Int) + 1) * ((k : Int) + 2) ≤ 650 := by
    refine ⟨Int.mul_nonneg Ab Ab, ?_⟩
    have := Int.mul_le_mul (show (k : Int) + 1 ≤ 24 by omega) (show (k : Int) + 2 ≤ 25 by omega) Ab Ab
    omega
   go_wp2
   go_roundw
   case rel =>
    refine ⟨k + 1, by omega, by go_num, rfl, by simp [xy], ?_, hf.setCell _ _ _ _ (fun h => absurd h (Nat.lt_irrefl _))⟩
    have e : ((k : Int) + 1) * ((k : Int) + 2) / 2 % 64 = (((k + 1) * (k + 2) / 2 % 64 : Nat) : Int) := by simp
    rw [e, nY, oM, ← m0F]
    exact hh.set _ _
   case measure => simp [intOf]; omega
  ·go_wp2_with (first | (with_reducible refine AA 27 ?_))
   have hk24 : k = 24 := by omega
   subst hk24
   refine fA rfl rfl underlying248 rfl hh (is (aW 24)) Ae Bx ?_
   go_wp2_with (first | (with_reducible refine nW (o := ⟨none, .store 248 _ _, _, _, _, _⟩) ?_))
   refine iE rfl rfl rfl rfl hh Ae Bx ?_ ?_
   ·intro v hv; simp [is] at hv; obtain ⟨x, _, rfl⟩ := hv; rfl
   intro w2 hh2 hf2 hz2
   go_wp2
   rw [gC _ _ rfl] at hh2
   exact bodyPost_ret (aX rfl rfl hh2 underlying248 Bx) rfl ⟨rfl, hf.new hf2 (Nat.le_refl _)⟩
theorem _root_.Al {p : Prop} (h : p := by unfold maxLen; omega) : p := h
theorem c0B (w : World) :
  Calls prog 203 #[] w fun e w' => e = .returned (.slice (some ⟨w.heap.size, 0, none⟩) 25 25) ∧ Has w' w.heap.size (is (aW 24)) 3 ∧ Fr Nob w w' := by
 go_enter func203, ntmps203
 go_wp2_with (at_make; refine eP rfl rfl underlying243 k0r rfl rfl rfl 25 25 Ae Ae Ab Ab Al ?_; intro w1 hw1 hf1 hz1)
 go_loopw [2, 3, 4] (fun x y i wr => ∃ k : Nat, k ≤ 24 ∧ i = .int .i64 k ∧ x = .int .i64 ((xy k).1 : Nat) ∧ y = .int .i64 ((xy k).2 : Nat) ∧ Has wr w.heap.size (is (aW k)) 3 ∧ Fr Nob w wr) (fun _ _ i _ => (24 - intOf i).toNat)
 case atStart => exact ⟨0, by omega, rfl, rfl, rfl, hw1, hf1⟩
 case round =>
  obtain ⟨k, hk, rfl, rfl, rfl, hh, hf⟩ := hrel
  have hxy := q0h k
  by_cases hlt : k < 24
  ·have hpl : dC (xy k).1 (xy k).2 = (xy k).1 + 5 * (xy k).2 := by unfold dC; rw [Nat.mod_eq_of_lt hxy.1, Nat.mod_eq_of_lt hxy.2]
   have HP := qH hpl; clear hpl
   have hpb : dC (xy k).1 (xy k).2 < 25 := by rw [HP.out]; omega
   obtain ⟨v0, hc, hfr⟩ := hh.ready (i := dC (xy k).1 (xy k).2) (by rw [kI, fI]; omega)
   have hp : (0 : Int) ≤ ((k : Int) + 1) * ((k : Int) + 2) ∧ ((k : Int) + 1) * ((k : Int) + 2) ≤ 650 := by
    refine ⟨Int.mul_nonneg Ab Ab, ?_⟩
    have := Int.mul_le_mul (show (k : Int) + 1 ≤ 24 by omega) (show (k : Int) + 2 ≤ 25 by omega) Ab Ab
    omega
   go_wp2_with (go_at_call 211; refine (sX _ _ _ Ab Ab Ab Ab).mono ?_; rintro e w' ⟨rfl, rfl⟩)
   go_roundw
   case rel =>
    refine ⟨k + 1, by omega, by go_num, rfl, by simp [xy], ?_, hf.setCell _ _ _ _ (fun h => absurd h (Nat.lt_irrefl _))⟩
    have e : ((k : Int) + 1) * ((k : Int) + 2) / 2 % 64 = (((k + 1) * (k + 2) / 2 % 64 : Nat) : Int) := by simp
    rw [e, nY, oM, ← m0F, ← HP.out]
    exact hh.set _ _
   case measure => simp [intOf]; omega
  ·go_wp2
   have hk24 : k = 24 := by omega
   subst hk24
   go_ret
   exact ⟨rfl, hh, hf⟩
end
section
open Go.RowKit Go.Mv Mvp
theorem h0i (g : Nat) (S : List UInt64) (tail : List Value) (T : TypeId) (b : Option Addr) (n c : Nat) (l : List UInt8) (w : World) (hS : S.length = 25) (hn : n ≤ 200) (hg : Has w g (ws S ++ tail) T) (hb : RdB w b n l) (hbg : Off (One g) b) :
  Calls prog 200 #[.pointer (some ⟨g, 0, none⟩), .slice b n c] w fun e w' => e = .returned (.tuple #[]) ∧ Has w' g (ws (oN S l n) ++ tail) T ∧ Fr (One g) w w' ∧ w'.heap.size = w.heap.size := by
 go_enter func200, ntmps200
 go_wp2
 go_loopw [8] (fun i wr => ∃ k : Nat, k ≤ n ∧ i = .int .i64 k ∧ Has wr g (ws (oN S l k) ++ tail) T ∧ Fr (One g) w wr ∧ wr.heap.size = w.heap.size) (fun i _ => (n - intOf i).toNat)
 case atStart => exact ⟨0, by omega, rfl, hg, Fr.refl _ _, rfl⟩
 case round =>
  obtain ⟨k, hk, rfl, hh, hf, hz⟩ := hrel
  by_cases hlt : k < n
  ·obtain ⟨bb, o, rfl, hcb0⟩ := (hb.keep hf hbg).at Ab
   have hcb := hcb0 k hlt
   clear hcb0
   have hlen := rU S l k
   have hi8 : k / 8 < (ws (oN S l k)).length := by rw [bW, hlen]; omega
   have hc : wr.cell? ⟨g, k / 8, none⟩ = some (.int .u64 (((oN S l k).getD (k / 8) 0).toNat : Int)) := hh.cell (by rw [List.getElem?_append_left hi8]; exact fN _ _ (by rw [hlen]; omega))
   have hfr : wr.frozen? ⟨g, k / 8, none⟩ = false := hh.free _ (by rw [List.length_append]; omega)
   have hlo : (0 : Int) ≤ (k : Int) / 8 ∧ (k : Int) / 8 < 25 := by omega
   generalize hy : (oN S l k).getD (k / 8) 0 = y at hc
   generalize hx : l.getD k 0 = x at hcb
   have HY := qH hy; clear hy
   have HX := qH hx; clear hx
   have HL := qH hlen; clear hlen hi8
   have HZ := qH hz; clear hz
   go_wp2
   go_region
   all_goals go_wp2
   go_roundw
   case rel =>
    refine ⟨k + 1, by omega, by go_num, ?_, (hf.setCell _ _ _ _ (fun _ => rfl)).drew, by have := HZ.out; simpa [World.setCell] using this⟩
    have h1 := (hh.set (k / 8) (.int .u64 ((wx y (shl (wid x) (8 * (k % 8)))).toNat : Int))).drew
    rw [List.set_append_left _ _ (by rw [bW, HL.out]; omega), nM, ← HY.out, ← HX.out] at h1
    rw [mC, fQ, ← HY.out, ← HX.out]
    exact h1
   case measure => simp [intOf]; omega
  ·go_wp2
   go_end0
   have : k = n := by omega
   subst this
   exact ⟨rfl, hh, hf, hz⟩
end
section
open Go.RowKit Go.Mv Mvp
theorem m0I (S : List UInt64) (n i : Nat) (h : i < n) : (toB S n).getD i 0 = kM S i := by
 simp [toB, List.getD_eq_getElem?_getD, List.getElem?_range h]
theorem _root_.Bl {p : Prop} (h : p := by simp [eC]) : p := h
theorem h0j (g : Nat) (S : List UInt64) (tail : List Value) (T : TypeId) (n : Nat) (w : World) (hS : S.length = 25) (hn : n ≤ 200) (hg : Has w g (ws S ++ tail) T) :
  Calls prog 202 #[.pointer (some ⟨g, 0, none⟩), .int .i64 (n : Int)] w fun e w' => e = .returned (.slice (some ⟨w.heap.size, 0, none⟩) n n) ∧ Has w' w.heap.size (bs (toB S n)) 5 ∧ Fr Nob w w' ∧ w'.heap.size = w.heap.size + 1 := by
 go_enter func202, ntmps202
 go_wp2_with (at_make; refine eP rfl rfl underlying22 dT rfl rfl rfl n n rfl rfl Ab Ab Al ?_; intro w1 hw1 hf1 hz1)
 have hgl := hg.lt
 go_loopw [11] (fun i wr => ∃ k : Nat, k ≤ n ∧ i = .int .i64 k ∧ Has wr w.heap.size (bs (fill (toB S n) (List.replicate n 0) k)) 5 ∧ Has wr g (ws S ++ tail) T ∧ Fr Nob w wr ∧ wr.heap.size = w.heap.size + 1) (fun i _ => (n - intOf i).toNat)
 case atStart =>
  refine ⟨0, by omega, rfl, ?_, hg.keep hf1 id, hf1, hz1⟩
  rw [a0B]; simpa [bs] using hw1
 case round =>
  obtain ⟨k, hk, rfl, hh, hg2, hf, hz⟩ := hrel
  by_cases hlt : k < n
  ·obtain ⟨v0, hc0, hfr0⟩ := hh.ready (i := k) (by rw [bP, nX _ _ _ Bl]; simpa using hlt)
   have hi8 : k / 8 < (ws S).length := by rw [bW, hS]; omega
   have hc : wr.cell? ⟨g, k / 8, none⟩ = some (.int .u64 ((S.getD (k / 8) 0).toNat : Int)) := hg2.cell (by rw [List.getElem?_append_left hi8]; exact fN _ _ (by rw [hS]; omega))
   have hlo : (0 : Int) ≤ (k : Int) / 8 ∧ (k : Int) / 8 < 25 := by omega
   generalize hy : S.getD (k / 8) 0 = y at hc
   have HY := qH hy; clear hy
   have HS := qH hS; clear hS hi8
   have HZ := qH hz; clear hz hz1 hw1
   go_wp2
   go_roundw
   case rel =>
    have e : (toB S n).getD k 0 = lo8 (shr y (8 * (k % 8))) := by rw [m0I S n k hlt, kM, HY.out]
    refine ⟨k + 1, by omega, by go_num, ?_, hg2.other _ _ _ Ab, hf.setCell _ _ _ _ (fun h => absurd h (Nat.lt_irrefl _)), by have := HZ.out; simpa [World.setCell] using this⟩
    rw [← e]
    exact hh.fillB Bl (by simpa [eC] using hlt)
   case measure => simp [intOf]; omega
  ·go_wp2
   go_ret
   obtain rfl : k = n := by omega
   rw [yF _ _ _ Bl Bl] at hh
   exact ⟨rfl, hh, hf, hz⟩
end
section
open Go.RowKit Go.Mv Mvp
theorem a0J (s : List UInt64) (k : Nat) : d0M s (k + 1) = yG s (d0M s k) k := by simp [d0M, List.range_succ]
theorem yL (s : List UInt64) (k : Nat) : (d0M s k).length = 5 := by
 induction k with
 | zero => simp [d0M]
 | succ k ih => rw [a0J]; simp [yG, ih]
theorem a0K (s c : List UInt64) (t : List Nat) (k : Nat) : f0r s c t (k + 1) = yH s c t (f0r s c t k) k := by simp [f0r, List.range_succ]
theorem d0O (s c : List UInt64) (t : List Nat) (k : Nat) : (f0r s c t k).length = 25 := by
 induction k with
 | zero => simp [f0r]
 | succ k ih => rw [a0K]; simp [yH, ih]
theorem h0k : (prog.info? 248).map (·.zero) = some (some (.agg (is (List.replicate 25 0)).toArray)) := by kernel_rfl
theorem f0y : (prog.info? 232).map (·.zero) = some (some (.agg (ws (List.replicate 25 0)).toArray)) := by kernel_rfl
theorem n0N : (prog.info? 250).map (·.zero) = some (some (.agg (ws (List.replicate 5 0)).toArray)) := by kernel_rfl
theorem h0l : (prog.info? 58).map (·.size) = some 1 := by kernel_rfl
theorem f0z (t : List Nat) (rc : Nat → UInt64) (s : List UInt64) : dD t rc s 0 = s := by simp [dD]
theorem h0m (m s : List UInt64) : a0F m s 0 = s := by simp [a0F]
theorem h0n (m s : List UInt64) (k : Nat) : a0F m s (k + 1) = kL m (a0F m s k) (5 * k) 5 := by simp [a0F, List.range_succ]
theorem c0C (m s : List UInt64) (y : Nat) : kL m s y 0 = s := by simp [kL]
theorem sY (m s : List UInt64) (y k : Nat) : kL m s y (k + 1) = sU m y (kL m s y k) k := by simp [kL, List.range_succ]
theorem f0A (m s : List UInt64) (y k : Nat) : (kL m s y k).length = s.length := by
 induction k with
 | zero => simp [kL]
 | succ k ih => rw [sY]; simp [sU, ih]
theorem d0P (k : Nat) : (aW 24).getD k 0 < 64 := by
 have h : ∀ k, k < 25 → (aW 24).getD k 0 < 64 := by decide +kernel
 rcases Nat.lt_or_ge k 25 with hk | hk
 ·exact h k hk
 ·rw [List.getD_eq_getElem?_getD, List.getElem?_eq_none (by rw [fI]; exact hk)]; simp
theorem h0o (k : Nat) (hk : k < 25) : kK k < 25 := by
 have h : ∀ k, k < 25 → kK k < 25 := by decide +kernel
 exact h k hk
theorem c0D (k : Nat) (w : World) (hk : k ≤ 25) : Calls prog 209 #[.int .i64 (k : Int)] w fun e w' => e = .returned (.int .i64 ((kK k : Nat) : Int)) ∧ w' = w :=
 (f0u k w Ab).mono (fun _ _ h => ⟨h.1, h.2.symm⟩)
theorem k0s (x : UInt64) (n : Nat) (hn : n < 64) (w : World) : Calls prog 208 #[.int .u64 (x.toNat : Int), .int .i64 (n : Int)] w fun e w' => e = .returned (.int .u64 ((c0u x n).toNat : Int)) ∧ w' = w :=
 (h0e x n hn w).mono (fun _ _ h => ⟨h.1, h.2.symm⟩)
theorem c0E (r : Nat) (hr : r < 24) (w : World) : Calls prog 210 #[.int .i64 (r : Int)] w fun e w' => e = .returned (.int .u64 ((rcP r 8).toNat : Int)) ∧ w' = w :=
 (f0v r hr w).mono (fun _ _ h => ⟨h.1, h.2.symm⟩)
theorem k0t (x : UInt64) (w : World) : Calls prog 208 #[.int .u64 (x.toNat : Int), .int .i64 1] w fun e w' => e = .returned (.int .u64 ((c0u x 1).toNat : Int)) ∧ w' = w :=
 (h0e x 1 Ab w).mono (fun _ _ h => ⟨h.1, h.2.symm⟩)
theorem _root_.Ay {p : Prop} (h : p := by simp [Value.cells]) : p := h
theorem _root_.Aa {p : Prop} (h : p := by kernel_rfl) : p := h
theorem c0F (g : Nat) (S : List UInt64) (tail : List Value) (T : TypeId) (w : World) (hS : S.length = 25) (hg : Has w g (ws S ++ tail) T) :
  Calls prog 201 #[.pointer (some ⟨g, 0, none⟩)] w fun e w' => e = .returned (.tuple #[]) ∧ Has w' g (ws (dD (aW 24) (fun r => rcP r 8) S 24) ++ tail) T ∧ Fr (One g) w w' := by
 go_enter func201, ntmps201
 go_wp2_with (first
  | (go_at_call 207; refine (h0h _).mono ?_; rintro e w1 ⟨rfl, hf1⟩)
  | (with_reducible refine nW (o := ⟨_, .alloc 248, _, _, _, _⟩) ?_))
 have hgl := hg.lt
 refine kZ rfl rfl h0k (is (List.replicate 25 0)) Ay ?_
 intro w2 hb2 hf2 hz2
 have hg2 := (hg.keep hf1 id).keep hf2 id
 have hgs := hf1.size
 generalize hbt : w1.heap.size = bt at *
 go_wp2_with (with_reducible refine nW (o := ⟨none, .store 248 _ _, _, _, _, _⟩) ?_)
 refine iE rfl rfl rfl rfl hb2 (by simp [kI, fI]) Bx ?_ ?_
 ·intro v hv; simp [is] at hv; obtain ⟨x, _, rfl⟩ := hv; rfl
 intro w3 hb3 hf3 hz3
 rw [gC _ _ (by simp [kI, fI])] at hb3
 have hg3 := hg2.keep hf3 (fun (h : g = bt) => by omega)
 have hfr : Fr (One g) w w3 := ((Fr.refl (One g) w).same hf1).same hf2 |>.new hf3 Ab
 clear hb2 hg2 hf1 hf2 hf3 hg
 go_wp2_with fail
 go_loopw [15] (fun i wr => ∃ r : Nat, r ≤ 24 ∧ i = .int .i64 r ∧ Has wr g (ws (dD (aW 24) (fun r => rcP r 8) S r) ++ tail) T ∧ Has wr bt (is (aW 24)) 248 ∧ Fr (One g) w wr) (fun i _ => (24 - intOf i).toNat)
 case atStart => exact ⟨0, by omega, rfl, by rw [f0z]; exact hg3, hb3, hfr⟩
 case round =>
  obtain ⟨r, hr, rfl, hgr, hbr, hf⟩ := hrel
  clear hg3 hb3 hfr
  by_cases hlt : r < 24
  ·have hltI : (r : Int) < 24 := by omega
   have hpl := sW (aW 24) (fun r => rcP r 8) S r
   rw [hS] at hpl
   generalize hrs : dD (aW 24) (fun r => rcP r 8) S r = s at *
   have HR := qH hrs; clear hrs
   go_wp2_with (with_reducible refine nW (o := ⟨_, .alloc 250, _, _, _, _⟩) ?_)
   refine kZ rfl rfl n0N (ws (List.replicate 5 0)) Ay ?_
   intro w4 hc4 hf4 hz4
   have hg4 := hgr.keep hf4 id
   have hb4 := hbr.keep hf4 id
   have hfr4 := hf.same hf4
   have hgc := hgr.lt
   have hbc := hbr.lt
   have hwc := hf.size
   generalize wr.heap.size = gc at *
   clear hgr hbr hf hf4 hz4
   go_wp2_with fail
   go_loopw [19] (fun i wr => ∃ k : Nat, k ≤ 25 ∧ i = .int .i64 k ∧ Has wr gc (ws (d0M s k)) 250 ∧ Has wr g (ws s ++ tail) T ∧ Has wr bt (is (aW 24)) 248 ∧ Fr (One g) w wr) (fun i _ => (25 - intOf i).toNat)
   case atStart => exact ⟨0, by omega, rfl, hc4, hg4, hb4, hfr4⟩
   case round =>
    obtain ⟨k, hk, rfl, hck, hgk, hbk, hf⟩ := hrel
    clear hc4 hg4 hb4 hfr4
    by_cases hlt2 : k < 25
    ·have hs : wr.cell? ⟨g, k, none⟩ = some (.int .u64 ((s.getD k 0).toNat : Int)) := hgk.cell (by rw [List.getElem?_append_left (by rw [bW, hpl]; exact hlt2)]; exact fN _ _ (by rw [hpl]; exact hlt2))
     have hc : wr.cell? ⟨gc, k % 5, none⟩ = some (.int .u64 (((d0M s k).getD (k % 5) 0).toNat : Int)) := hck.cell (fN _ _ (by rw [yL]; omega))
     have hfc : wr.frozen? ⟨gc, k % 5, none⟩ = false := hck.free _ (by rw [bW, yL]; omega)
     have hlo : (0 : Int) ≤ (k : Int) ∧ (k : Int) < 25 ∧ (0 : Int) ≤ (k : Int) % 5 ∧ (k : Int) % 5 < 5 := by omega
     generalize hx : s.getD k 0 = x at hs
     generalize hy : (d0M s k).getD (k % 5) 0 = y at hc
     have HX := qH hx; clear hx
     have HY := qH hy; clear hy
     have HS := qH hpl; clear hpl
     have HS2 := qH hS; clear hS
     go_wp2
     go_region
     all_goals go_wp2
     go_roundw
     case rel =>
      have e : d0M s (k + 1) = (d0M s k).set (k % 5) (wx y x) := by rw [a0J, yG, HX.out, HY.out]; rfl
      refine ⟨k + 1, by omega, by go_num, ?_, (hgk.other _ _ _ Ab).drew, (hbk.other _ _ _ Ab).drew, (hf.setCell _ _ _ _ (fun h => by omega)).drew⟩
      rw [e, ← nM]
      exact (hck.set _ _).drew
     case measure => simp [intOf]; omega
    ·have hk25 : k = 25 := by omega
     subst hk25
     go_wp2_with (with_reducible refine nW (o := ⟨_, .alloc 232, _, _, _, _⟩) ?_)
     refine kZ rfl rfl f0y (ws (List.replicate 25 0)) Ay ?_
     intro w5 hm5 hf5 hz5
     have hc5 := hck.keep hf5 id
     have hg5 := hgk.keep hf5 id
     have hb5 := hbk.keep hf5 id
     have hfr5 := hf.same hf5
     have hcm := hck.lt
     have hgm := hgk.lt
     have hbm := hbk.lt
     have hwm := hf.size
     generalize wr.heap.size = gm at *
     generalize hcol : d0M s 25 = col at *
     clear hck hgk hbk hf hf5 hz5
     have hcl : col.length = 5 := by rw [← hcol, yL]
     have HC := qH hcol; clear hcol
     have HCL := qH hcl; clear hcl
     go_wp2_with fail
     go_loopw [34] (fun i wr => ∃ k : Nat, k ≤ 25 ∧ i = .int .i64 k ∧ Has wr gm (ws (f0r s col (aW 24) k)) 232 ∧ Has wr gc (ws col) 250 ∧ Has wr g (ws s ++ tail) T ∧ Has wr bt (is (aW 24)) 248 ∧ Fr (One g) w wr) (fun i _ => (25 - intOf i).toNat)
     case atStart => exact ⟨0, by omega, rfl, hm5, hc5, hg5, hb5, hfr5⟩
     case round =>
      obtain ⟨k, hk, rfl, hmk, hck, hgk, hbk, hf⟩ := hrel
      clear hm5 hc5 hg5 hb5 hfr5
      by_cases hlt3 : k < 25
      ·have hs : wr.cell? ⟨g, k, none⟩ = some (.int .u64 ((s.getD k 0).toNat : Int)) := hgk.cell (by rw [List.getElem?_append_left (by rw [bW, hpl]; exact hlt3)]; exact fN _ _ (by rw [hpl]; exact hlt3))
       have hc4 : wr.cell? ⟨gc, (k + 4) % 5, none⟩ = some (.int .u64 ((col.getD ((k + 4) % 5) 0).toNat : Int)) := hck.cell (fN _ _ (by rw [HCL.out]; omega))
       have hc1 : wr.cell? ⟨gc, (k + 1) % 5, none⟩ = some (.int .u64 ((col.getD ((k + 1) % 5) 0).toNat : Int)) := hck.cell (fN _ _ (by rw [HCL.out]; omega))
       have hby : wr.cell? ⟨bt, k, none⟩ = some (.int .i64 (((aW 24).getD k 0 : Nat) : Int)) := hbk.cell (m0E _ _ (by rw [fI]; exact hlt3))
       have hbl : (aW 24).getD k 0 < 64 := d0P k
       have hgt : kK k < 25 := h0o k hlt3
       obtain ⟨v0, hcm0, hfm0⟩ := hmk.ready (i := kK k) (by rw [bW, d0O]; exact hgt)
       have hlo : (0 : Int) ≤ (k : Int) ∧ (k : Int) < 25 ∧ (0 : Int) ≤ ((k : Int) + 4) % 5 ∧ ((k : Int) + 4) % 5 < 5 ∧ (0 : Int) ≤ ((k : Int) + 1) % 5 ∧ ((k : Int) + 1) % 5 < 5 := by omega
       generalize hx : s.getD k 0 = x at hs
       generalize hy4 : col.getD ((k + 4) % 5) 0 = y4 at hc4
       generalize hy1 : col.getD ((k + 1) % 5) 0 = y1 at hc1
       generalize hn : (aW 24).getD k 0 = n at hby hbl
       have HX := qH hx; clear hx
       have HY4 := qH hy4; clear hy4
       have HY1 := qH hy1; clear hy1
       have HN := qH hn; clear hn
       have HS := qH hpl; clear hpl
       have HS2 := qH hS; clear hS
       go_wp2
       go_region
       all_goals go_wp2
       have e1 : IntKind.i64.wrap ((k : Int) + 4) = (k : Int) + 4 := IntWalk.i64_in _ Ab
       have e2 : ((k : Int) + 4).tmod 5 = ((k : Int) + 4) % 5 := Int.tmod_eq_emod_of_nonneg Ab
       have e3 : (((k : Int) + 4) % 5).toNat = (k + 4) % 5 := by omega
       have e4 : IntKind.i64.wrap ((k : Int) + 1) = (k : Int) + 1 := IntWalk.i64_in _ Ab
       have e5 : ((k : Int) + 1).tmod 5 = ((k : Int) + 1) % 5 := Int.tmod_eq_emod_of_nonneg Ab
       have e6 : (((k : Int) + 1) % 5).toNat = (k + 1) % 5 := by omega
       go_quiet ((go_at_call 208; exact f0q (k0t _ _)))
       clear e1 e2 e3 e4 e5 e6
       go_wp2_with fail
       have HG := qH hgt; clear hgt
       have hgi : (0 : Int) ≤ (kK k : Int) ∧ (kK k : Int) < 25 := by have := HG.out; omega
       have hmz := hmk.drew.drewN nq
       have hcz := hck.drew.drewN nq
       have hgz := hgk.drew.drewN nq
       have hbz := hbk.drew.drewN nq
       have hfz := hf.drew.drewN nq
       have hbyz : (wr.drew.drewN nq).cell? ⟨bt, k, none⟩ = some (.int .i64 (n : Int)) := hby
       have hmcz : (wr.drew.drewN nq).cell? ⟨gm, kK k, none⟩ = some v0 := hcm0
       have hmfz : (wr.drew.drewN nq).frozen? ⟨gm, kK k, none⟩ = false := hfm0
       clear hmk hck hgk hbk hf hby hcm0 hfm0 hs hc4 hc1
       generalize wr.drew.drewN nq = wz at *
       clear wr
       refine wp_region_still_tail 8 Aa Aa ?_
       simp only [List.take_succ_cons, List.take_zero, List.drop_succ_cons, List.drop_zero]
       repeat still_step
       still_call (c0D k _ hk)
       repeat still_step
       still_call (k0s _ n hbl _)
       repeat still_step
       refine wpStill_nil ?_
       go_wp2
       go_roundw
       case rel =>
        have e : f0r s col (aW 24) (k + 1) = (f0r s col (aW 24) k).set (kK k) (c0u (wx x (wx y4 (c0u y1 1))) n) := by
         rw [a0K, yH, HX.out, HY4.out, HY1.out, HN.out]; rfl
        refine ⟨k + 1, by omega, by go_num, ?_, (hcz.other _ _ _ Ab).drew, (hgz.other _ _ _ Ab).drew, (hbz.other _ _ _ Ab).drew, (hfz.setCell _ _ _ _ (fun h => by omega)).drew⟩
        rw [e, ← nM]
        exact (hmz.set _ _).drew
       case measure => simp [intOf]; omega
      ·obtain rfl : k = 25 := by omega
       have hml := d0O s col (aW 24) 25
       have hmw : f0r s col (aW 24) 25 = f0r s (d0M s 25) (aW 24) 25 := by rw [HC.out]
       generalize hmv : f0r s col (aW 24) 25 = mv at *
       have HM := qH hmw; clear hmw hmv
       have HML := qH hml; clear hml
       have HPL := qH hpl; clear hpl
       have HS2 := qH hS; clear hS
       clear hck
       go_wp2_with fail
       go_loopw [10] (fun i wr => ∃ j : Nat, j ≤ 5 ∧ i = .int .i64 ((5 * j : Nat) : Int) ∧ Has wr gm (ws mv) 232 ∧ Has wr g (ws (a0F mv s j) ++ tail) T ∧ Has wr bt (is (aW 24)) 248 ∧ Fr (One g) w wr) (fun i _ => (25 - intOf i).toNat)
       case atStart => exact ⟨0, by omega, rfl, hmk, by rw [h0m]; exact hgk, hbk, hf⟩
       case round =>
        obtain ⟨j, hj, rfl, hmj, hgj, hbj, hfj⟩ := hrel
        clear hmk hgk hbk hf
        by_cases hlt4 : j < 5
        ·have hlo : (0 : Int) ≤ 5 * (j : Int) ∧ 5 * (j : Int) < 25 ∧ 5 * (j : Int) ≤ 20 := by omega
         obtain ⟨wo, rfl⟩ : ∃ wo : World, wo = wr := ⟨_, rfl⟩
         go_wp2_with (with_reducible refine AA 72 ?_)
         refine n0L rfl rfl underlying232 h0l rfl rfl rfl rfl (5 * j) (5 * j + 5) (5 * j + 5) Ae Ae Ae Ab Ab Ab Ab ?_
         have e5 : 5 * j + 5 - 5 * j = 5 := by omega
         rw [e5]
         clear e5
         go_wp2_with fail
         go_loopw [75] (fun i wr => ∃ x : Nat, x ≤ 5 ∧ i = .int .i64 x ∧ Has wr gm (ws mv) 232 ∧ Has wr g (ws (kL mv (a0F mv s j) (5 * j) x) ++ tail) T ∧ Has wr bt (is (aW 24)) 248 ∧ Fr (One g) w wr) (fun i _ => (5 - intOf i).toNat)
         case atStart => exact ⟨0, by omega, rfl, hmj, by rw [c0C]; exact hgj, hbj, hfj⟩
         case round =>
          obtain ⟨x, hx, rfl, hmx, hgx, hbx, hfx⟩ := hrel
          clear hmj hgj hbj hfj
          by_cases hlt5 : x < 5
          ·have hml : mv.length = 25 := HML.out
           have hsl : (kL mv (a0F mv s j) (5 * j) x).length = 25 := by rw [f0A, yI]; exact HPL.out
           have hx0 : wr.cell? ⟨gm, 5 * j + x, none⟩ = some (.int .u64 ((mv.getD (5 * j + x) 0).toNat : Int)) := hmx.cell (fN _ _ Ab)
           have hx1 : wr.cell? ⟨gm, 5 * j + (x + 1) % 5, none⟩ = some (.int .u64 ((mv.getD (5 * j + (x + 1) % 5) 0).toNat : Int)) := hmx.cell (fN _ _ Ab)
           have hx2 : wr.cell? ⟨gm, 5 * j + (x + 2) % 5, none⟩ = some (.int .u64 ((mv.getD (5 * j + (x + 2) % 5) 0).toNat : Int)) := hmx.cell (fN _ _ Ab)
           obtain ⟨v0, hc0, hf0⟩ := hgx.ready (i := 5 * j + x) (by rw [List.length_append, bW, hsl]; omega)
           have hlo5 : (0 : Int) ≤ (x : Int) ∧ (x : Int) < 5 ∧ (0 : Int) ≤ ((x : Int) + 1) % 5 ∧ ((x : Int) + 1) % 5 < 5 ∧ (0 : Int) ≤ ((x : Int) + 2) % 5 ∧ ((x : Int) + 2) % 5 < 5 := by omega
           have hlo6 : (0 : Int) ≤ 5 * (j : Int) + (x : Int) ∧ 5 * (j : Int) + (x : Int) < 25 := by omega
           generalize hy0 : mv.getD (5 * j + x) 0 = y0 at hx0
           generalize hy1 : mv.getD (5 * j + (x + 1) % 5) 0 = y1 at hx1
           generalize hy2 : mv.getD (5 * j + (x + 2) % 5) 0 = y2 at hx2
           have HY0 := qH hy0; clear hy0
           have HY1 := qH hy1; clear hy1
           have HY2 := qH hy2; clear hy2
           have HSL := qH hsl; clear hsl hml
           go_wp2_with fail
           have e1 : IntKind.i64.wrap ((x : Int) + 1) = (x : Int) + 1 := IntWalk.i64_in _ Ab
           have e2 : ((x : Int) + 1).tmod 5 = ((x : Int) + 1) % 5 := Int.tmod_eq_emod_of_nonneg Ab
           have e3 : (((x : Int) + 1) % 5).toNat = (x + 1) % 5 := by omega
           have e4 : IntKind.i64.wrap ((x : Int) + 2) = (x : Int) + 2 := IntWalk.i64_in _ Ab
           have e5 : ((x : Int) + 2).tmod 5 = ((x : Int) + 2) % 5 := Int.tmod_eq_emod_of_nonneg Ab
           have e6 : (((x : Int) + 2) % 5).toNat = (x + 2) % 5 := by omega
           have e7 : IntKind.i64.wrap (5 * (j : Int) + (x : Int)) = 5 * (j : Int) + (x : Int) := IntWalk.i64_in _ Ab
           have e8 : (5 * (j : Int) + (x : Int)).toNat = 5 * j + x := by omega
           refine wp_region_still_tail 22 Aa Aa ?_
           simp only [List.take_succ_cons, List.take_zero, List.drop_succ_cons, List.drop_zero]
           repeat still_step
           refine wpStill_nil ?_
           go_wp2
           go_roundw
           case rel =>
            have e : kL mv (a0F mv s j) (5 * j) (x + 1) = (kL mv (a0F mv s j) (5 * j) x).set (5 * j + x) (wx y0 (wa (wn y1) y2)) := by
             rw [sY, sU, HY0.out, HY1.out, HY2.out]; rfl
            refine ⟨x + 1, by omega, by go_num, (hmx.other _ _ _ Ab).drew, ?_, (hbx.other _ _ _ Ab).drew, (hfx.setCell _ _ _ _ (fun _ => rfl)).drew⟩
            rw [e, ← nM, ← List.set_append_left _ _ (by rw [bW, HSL.out]; omega)]
            exact (hgx.set _ _).drew
           case measure => simp [intOf]; omega
          ·have hge : ¬ ((x : Int) < 5) := by omega
           have hx5 : x = 5 := by omega
           have HX5 := qH hx5; clear hx5
           go_wp2_with fail
           go_roundw
           case rel => exact ⟨j + 1, by omega, by omega, by rw [h0n]; rw [HX5.out] at hgx; exact hgx⟩
           case measure => simp [intOf]; omega
        ·have hge : ¬ (5 * (j : Int) < 25) := by omega
         have hj5 : j = 5 := by omega
         have HJ5 := qH hj5; clear hj5
         have hsl : (a0F mv s j).length = 25 := by rw [yI]; exact HPL.out
         have hc0 : wr.cell? ⟨g, 0, none⟩ = some (.int .u64 (((a0F mv s j).getD 0 0).toNat : Int)) := hgj.cell (by rw [List.getElem?_append_left (by rw [bW, hsl]; omega)]; exact fN _ _ (by rw [hsl]; omega))
         have hf0 : wr.frozen? ⟨g, 0, none⟩ = false := hgj.free _ (by rw [List.length_append, bW, hsl]; omega)
         generalize hy : (a0F mv s j).getD 0 0 = y at hc0
         have HY := qH hy; clear hy
         have HSL := qH hsl; clear hsl
         go_wp2_with fail
         refine wp_region_still_tail 9 Aa Aa ?_
         simp only [List.take_succ_cons, List.take_zero, List.drop_succ_cons, List.drop_zero]
         repeat still_step
         still_call (c0E r hlt _)
         repeat still_step
         refine wpStill_nil ?_
         go_wp2
         go_roundw
         case rel =>
          have e : dD (aW 24) (fun r => rcP r 8) S (r + 1) = (a0F mv s j).set 0 (wx y (rcP r 8)) := by
           rw [qI, HR.out, sV, ← HM.out, ← HJ5.out, HY.out]; rfl
          refine ⟨r + 1, by omega, by go_num, ?_, (hbj.other _ _ _ Ab).drew, (hfj.setCell _ _ _ _ (fun _ => rfl)).drew⟩
          rw [e, ← nM, ← List.set_append_left _ _ (by rw [bW, HSL.out]; omega)]
          exact (hgj.set _ _).drew
         case measure => simp [intOf]; omega
  ·obtain rfl : r = 24 := by omega
   go_wp2_with fail
   go_end0
   exact ⟨rfl, hgr, hf⟩
end
section
open Go.RowKit Go.Mv Mvp
theorem a0L (s : List UInt64) (k : Nat) : vQ s (k + 1) = fX s (vQ s k) k 5 := by simp [vQ, List.range_succ]
theorem a0M (s c : List UInt64) (x : Nat) : fX s c x 0 = c := by simp [fX]
theorem rA (s c : List UInt64) (x k : Nat) : fX s c x (k + 1) = rR s x (fX s c x k) k := by simp [fX, List.range_succ]
theorem sZ (s c : List UInt64) (x k : Nat) : (fX s c x k).length = c.length := by
 induction k with
 | zero => simp [fX]
 | succ k ih => rw [rA]; simp [rR, ih]
theorem d0Q (s : List UInt64) (k : Nat) : (vQ s k).length = 5 := by
 induction k with
 | zero => simp [vQ]
 | succ k ih => rw [a0L, sZ, ih]
theorem h0p (s : List UInt64) : vQ s 0 = List.replicate 5 0 := by simp [vQ]
theorem a0N (s : List UInt64) (t : List Nat) (c : List UInt64) (k : Nat) : a0G s t c (k + 1) = iL s t (a0G s t c k) k (dR c k) 5 := by simp [a0G, List.range_succ]
theorem a0O (s : List UInt64) (t : List Nat) (m : List UInt64) (x : Nat) (d : UInt64) : iL s t m x d 0 = m := by simp [iL]
theorem rB (s : List UInt64) (t : List Nat) (m : List UInt64) (x : Nat) (d : UInt64) (k : Nat) : iL s t m x d (k + 1) = rS s t x d (iL s t m x d k) k := by simp [iL, List.range_succ]
theorem tA (s : List UInt64) (t : List Nat) (m : List UInt64) (x : Nat) (d : UInt64) (k : Nat) : (iL s t m x d k).length = m.length := by
 induction k with
 | zero => simp [iL]
 | succ k ih => rw [rB]; simp [rS, ih]
theorem d0R (s : List UInt64) (t : List Nat) (c : List UInt64) (k : Nat) : (a0G s t c k).length = 25 := by
 induction k with
 | zero => simp [a0G]
 | succ k ih => rw [a0N, tA, ih]
theorem a0P (m : List UInt64) (k : Nat) : a0H m (k + 1) = iM m (a0H m k) k 5 := by simp [a0H, List.range_succ]
theorem a0Q (m o : List UInt64) (x : Nat) : iM m o x 0 = o := by simp [iM]
theorem rC (m o : List UInt64) (x k : Nat) : iM m o x (k + 1) = rT m x (iM m o x k) k := by simp [iM, List.range_succ]
theorem tB (m o : List UInt64) (x k : Nat) : (iM m o x k).length = o.length := by
 induction k with
 | zero => simp [iM]
 | succ k ih => rw [rC]; simp [rT, ih]
theorem yM (m : List UInt64) (k : Nat) : (a0H m k).length = 25 := by
 induction k with
 | zero => simp [a0H]
 | succ k ih => rw [a0P, tB, ih]
theorem iT (x y : Nat) : dC x y < 25 := by unfold dC; omega
theorem rV : (prog.info? 58).map (fun i => (i.zero, i.size, i.bytes)) = some (some (.int .u64 0), 1, 8) := by kernel_rfl
theorem jB (x y : Nat) (w : World) (hx : x ≤ 200) (hy : y ≤ 200) : Calls prog 211 #[.int .i64 (x : Int), .int .i64 (y : Int)] w fun e w' => e = .returned (.int .i64 ((dC x y : Nat) : Int)) ∧ w' = w :=
 (sX x y w Ab Ab Ab Ab).mono (fun _ _ h => ⟨h.1, h.2.symm⟩)
theorem f0B (x y : Nat) (w : World) (hx : x ≤ 100) (hy : y ≤ 100) : Calls prog 211 #[.int .i64 (y : Int), .int .i64 (2 * (x : Int) + 3 * (y : Int))] w fun e w' => e = .returned (.int .i64 ((dC y (2 * x + 3 * y) : Nat) : Int)) ∧ w' = w := by
 refine (sX (y : Int) (2 * (x : Int) + 3 * (y : Int)) w Ab Ab Ab Ab).mono (fun e w' h => ⟨h.1.trans ?_, h.2.symm⟩)
 have e1 : (2 * (x : Int) + 3 * (y : Int)).toNat = 2 * x + 3 * y := by omega
 rw [e1, Int.toNat_natCast]
theorem n0O (x y : Nat) (w : World) (hx : x ≤ 100) (hy : y ≤ 100) : Calls prog 211 #[.int .i64 ((x : Int) + 1), .int .i64 (y : Int)] w fun e w' => e = .returned (.int .i64 ((dC (x + 1) y : Nat) : Int)) ∧ w' = w := jB (x + 1) y w Ab Ab
theorem n0P (x y : Nat) (w : World) (hx : x ≤ 100) (hy : y ≤ 100) : Calls prog 211 #[.int .i64 ((x : Int) + 2), .int .i64 (y : Int)] w fun e w' => e = .returned (.int .i64 ((dC (x + 2) y : Nat) : Int)) ∧ w' = w := jB (x + 2) y w Ab Ab
theorem h0q (x : UInt64) (w : World) : Calls prog 212 #[.int .u64 (x.toNat : Int), .int .i64 1] w fun e w' => e = .returned (.int .u64 ((c0u x 1).toNat : Int)) ∧ ∃ n, w' = w.drewN n := d0N x 1 Ab w
theorem h0r (aa ta : Option Addr) (na ca ct : Nat) (S : List UInt64) (c : UInt64) (w : World) (hna : na = 25) (ha : Rd w aa na (ws S)) (ht : Rd w ta 25 (is (aW 24))) :
  Calls prog 204 #[.slice aa na ca, .slice ta 25 ct, .int .u64 (c.toNat : Int)] w fun e w' => ∃ g, e = .returned (.slice (some ⟨g, 0, none⟩) 25 25) ∧ w.heap.size ≤ g ∧ Has w' g (ws (oK (aW 24) S c)) 58 ∧ Fr Nob w w' := by
 subst hna
 have hS : S.length = 25 := by have := ha.len; rwa [bW] at this
 go_enter func204, ntmps204
 go_wp2_with (at_make; refine eP rfl rfl underlying226 rV rfl rfl rfl 5 5 Ae Ae Ab Ab Al ?_; intro w1 hw1 hf1 hz1)
 have hc1 : Has w1 w.heap.size (ws (vQ S 0)) 58 := by rw [h0p]; exact hw1
 generalize hgc : w.heap.size = gc at *
 clear hw1
 go_loopw [8] (fun i wr => ∃ x : Nat, x ≤ 5 ∧ i = .int .i64 x ∧ Has wr gc (ws (vQ S x)) 58 ∧ Fr Nob w wr) (fun i _ => (5 - intOf i).toNat)
 case atStart => exact ⟨0, by omega, rfl, hc1, hf1⟩
 case round =>
  obtain ⟨x, hx, rfl, hcx, hfx⟩ := hrel
  clear hc1 hf1
  by_cases hlt : x < 5
  ·have hltI : (x : Int) < 5 := by omega
   obtain ⟨wo, rfl⟩ : ∃ wo : World, wo = wr := ⟨_, rfl⟩
   go_wp2_with fail
   go_loopw [9] (fun i wr => ∃ y : Nat, y ≤ 5 ∧ i = .int .i64 y ∧ Has wr gc (ws (fX S (vQ S x) x y)) 58 ∧ Fr Nob w wr) (fun i _ => (5 - intOf i).toNat)
   case atStart => exact ⟨0, by omega, rfl, by rw [a0M]; exact hcx, hfx⟩
   case round =>
    obtain ⟨y, hy, rfl, hcy, hfy⟩ := hrel
    clear hcx hfx
    by_cases hlt2 : y < 5
    ·have hlt2I : (y : Int) < 5 := by omega
     obtain ⟨b, o, rfl, hat⟩ := (ha.still hfy).at Ab
     have hs : wr.cell? ⟨b, o + dC x y, none⟩ = some (.int .u64 ((S.getD (dC x y) 0).toNat : Int)) := hat _ _ (fN _ _ (by rw [hS]; exact iT x y))
     have hsl : (fX S (vQ S x) x y).length = 5 := by rw [sZ, d0Q]
     have hc : wr.cell? ⟨gc, x, none⟩ = some (.int .u64 (((fX S (vQ S x) x y).getD x 0).toNat : Int)) := hcy.cell (fN _ _ (by rw [hsl]; exact hlt))
     have hf : wr.frozen? ⟨gc, x, none⟩ = false := hcy.free _ (by rw [bW, hsl]; exact hlt)
     have hpl : (0 : Int) ≤ (dC x y : Int) ∧ (dC x y : Int) < 25 := by have := iT x y; omega
     generalize hu : S.getD (dC x y) 0 = u at hs
     generalize hv : (fX S (vQ S x) x y).getD x 0 = v at hc
     have HU := qH hu; clear hu
     have HV := qH hv; clear hv
     have HSL := qH hsl; clear hsl
     have HS := qH hS; clear hS
     clear hat
     have HGC := qH hgc; clear hgc
     go_wp2_with fail
     refine wp_region_still_tail 14 Aa Aa ?_
     simp only [List.take_succ_cons, List.take_zero, List.drop_succ_cons, List.drop_zero]
     repeat still_step
     still_call (jB x y _ Ab Ab)
     repeat still_step
     refine wpStill_nil ?_
     go_wp2
     go_roundw
     case rel =>
      have e : fX S (vQ S x) x (y + 1) = (fX S (vQ S x) x y).set x (wx v u) := by rw [rA, rR, HU.out, HV.out]; rfl
      refine ⟨y + 1, by omega, by go_num, ?_, (hfy.setCell _ _ _ _ (fun h => by have := HGC.out; omega)).drew⟩
      rw [e, ← nM]
      exact (hcy.set _ _).drew
     case measure => simp [intOf]; omega
    ·have hge : ¬ ((y : Int) < 5) := by omega
     have hy5 : y = 5 := by omega
     have HY := qH hy5; clear hy5
     go_wp2_with fail
     go_roundw
     case rel =>
      rw [HY.out, ← a0L] at hcy
      first
       | exact ⟨x + 1, by omega, by go_num, hcy, hfy⟩
       | exact ⟨x + 1, by omega, by omega, hcy⟩
     case measure => simp [intOf]; omega
  ·have hge : ¬ ((x : Int) < 5) := by omega
   have hx5 : x = 5 := by omega
   have hcl : (vQ S x).length = 5 := d0Q S x
   have hcol : vQ S x = vQ S 5 := by rw [hx5]
   generalize vQ S x = col at *
   have HCOL := qH hcol; clear hcol hx5
   go_wp2_with (at_make; refine eP rfl rfl underlying226 rV rfl rfl rfl 25 25 Ae Ae Ab Ab Al ?_; intro w2 hw2 hf2 hz2)
   have hm2 : Has w2 wr.heap.size (ws (a0G S (aW 24) col 0)) 58 := by simpa [a0G, ws] using hw2
   have hgm : gc < wr.heap.size := hcx.lt
   have hc2 := hcx.keep hf2 id
   have hfr2 := hfx.same hf2
   have hwm : gc ≤ wr.heap.size := by have := hfx.size; omega
   generalize wr.heap.size = gm at *
   clear hw2 hf2 hz2 hcx hfx
   go_wp2_with fail
   go_loopw [11] (fun i wr => ∃ x : Nat, x ≤ 5 ∧ i = .int .i64 x ∧ Has wr gc (ws col) 58 ∧ Has wr gm (ws (a0G S (aW 24) col x)) 58 ∧ Fr Nob w wr) (fun i _ => (5 - intOf i).toNat)
   case atStart => exact ⟨0, by omega, rfl, hc2, hm2, hfr2⟩
   case round =>
    obtain ⟨x, hx, rfl, hcx, hmx, hfx⟩ := hrel
    clear hc2 hm2 hfr2
    by_cases hlt3 : x < 5
    ·have hlt3I : (x : Int) < 5 := by omega
     obtain ⟨wo, rfl⟩ : ∃ wo : World, wo = wr := ⟨_, rfl⟩
     have hc4 : wo.cell? ⟨gc, (x + 4) % 5, none⟩ = some (.int .u64 ((col.getD ((x + 4) % 5) 0).toNat : Int)) := hcx.cell (fN _ _ Ab)
     have hc1 : wo.cell? ⟨gc, (x + 1) % 5, none⟩ = some (.int .u64 ((col.getD ((x + 1) % 5) 0).toNat : Int)) := hcx.cell (fN _ _ Ab)
     generalize hu : col.getD ((x + 4) % 5) 0 = u at hc4
     generalize hv : col.getD ((x + 1) % 5) 0 = v at hc1
     have HU := qH hu; clear hu
     have HV := qH hv; clear hv
     have HCL := qH hcl; clear hcl
     have HS := qH hS; clear hS
     have HGC := qH hgc; clear hgc
     have hlo : (0 : Int) ≤ ((x : Int) + 4) % 5 ∧ ((x : Int) + 4) % 5 < 5 ∧ (0 : Int) ≤ ((x : Int) + 1) % 5 ∧ ((x : Int) + 1) % 5 < 5 := by omega
     go_wp2_with fail
     have e1 : IntKind.i64.wrap ((x : Int) + 4) = (x : Int) + 4 := IntWalk.i64_in _ Ab
     have e2 : ((x : Int) + 4).tmod 5 = ((x : Int) + 4) % 5 := Int.tmod_eq_emod_of_nonneg Ab
     have e3 : (((x : Int) + 4) % 5).toNat = (x + 4) % 5 := by omega
     have e4 : IntKind.i64.wrap ((x : Int) + 1) = (x : Int) + 1 := IntWalk.i64_in _ Ab
     have e5 : ((x : Int) + 1).tmod 5 = ((x : Int) + 1) % 5 := Int.tmod_eq_emod_of_nonneg Ab
     have e6 : (((x : Int) + 1) % 5).toNat = (x + 1) % 5 := by omega
     go_quiet ((go_at_call 212; exact Calls.quiet_of (h0q _ _)))
     clear e1 e2 e3 e4 e5 e6
     go_wp2_with fail
     have hcz := hcx.drewN nq
     have hmz := hmx.drewN nq
     have hfz := hfx.drewN nq
     generalize wo.drewN nq = wz at *
     clear hcx hmx hfx hc4 hc1 wo
     have hmb := hmz.lt
     have hd : wx u (c0u v 1) = dR col x := by rw [dR, HU.out, HV.out]; rfl
     generalize wx u (c0u v 1) = d at *
     have HD := qH hd; clear hd
     go_loopw [13] (fun i wr => ∃ y : Nat, y ≤ 5 ∧ i = .int .i64 y ∧ Has wr gc (ws col) 58 ∧ Has wr gm (ws (iL S (aW 24) (a0G S (aW 24) col x) x d y)) 58 ∧ Fr Nob w wr) (fun i _ => (5 - intOf i).toNat)
     case atStart => exact ⟨0, by omega, rfl, hcz, by rw [a0O]; exact hmz, hfz⟩
     case round =>
      obtain ⟨y, hy, rfl, hcy, hmy, hfy⟩ := hrel
      clear hcz hmz hfz
      by_cases hlt4 : y < 5
      ·have hlt4I : (y : Int) < 5 := by omega
       obtain ⟨b, o, rfl, hat⟩ := (ha.still hfy).at Ab
       obtain ⟨tb, to, rfl, tat⟩ := (ht.still hfy).at Ab
       have hnb : b ≠ gm := by have := ha.lt Ab; have := HGC.out; omega
       have hnt : tb ≠ gm := by have := ht.lt Ab; have := HGC.out; omega
       have hs : wr.cell? ⟨b, o + dC x y, none⟩ = some (.int .u64 ((S.getD (dC x y) 0).toNat : Int)) := hat _ _ (fN _ _ (by rw [HS.out]; exact iT x y))
       have htu : wr.cell? ⟨tb, to + dC x y, none⟩ = some (.int .i64 (((aW 24).getD (dC x y) 0 : Nat) : Int)) := tat _ _ (m0E _ _ (by rw [fI]; exact iT x y))
       have htl : (aW 24).getD (dC x y) 0 < 64 := d0P _
       have hpl := iT x y
       have hpl2 := iT y (2 * x + 3 * y)
       obtain ⟨v0, hc0, hf0⟩ := hmy.ready (i := dC y (2 * x + 3 * y)) (by rw [bW, tA, d0R]; exact hpl2)
       have hpi : (0 : Int) ≤ (dC x y : Int) ∧ (dC x y : Int) < 25 ∧ (0 : Int) ≤ (dC y (2 * x + 3 * y) : Int) ∧ (dC y (2 * x + 3 * y) : Int) < 25 := by omega
       generalize hsv : S.getD (dC x y) 0 = sv at hs
       generalize htv : (aW 24).getD (dC x y) 0 = tv at htu htl
       have HSV := qH hsv; clear hsv
       have HTV := qH htv; clear htv
       clear hat tat hpl hpl2
       go_wp2_with fail
       have e1 : IntKind.i64.wrap (2 * (x : Int)) = 2 * (x : Int) := IntWalk.i64_in _ Ab
       have e2 : IntKind.i64.wrap (3 * (y : Int)) = 3 * (y : Int) := IntWalk.i64_in _ Ab
       have e3 : IntKind.i64.wrap (2 * (x : Int) + 3 * (y : Int)) = 2 * (x : Int) + 3 * (y : Int) := IntWalk.i64_in _ Ab
       go_region_held3 (fun w' => w'.cell? ⟨b, o + dC x y, none⟩ = some (.int .u64 (sv.toNat : Int)) ∧ w'.cell? ⟨tb, to + dC x y, none⟩ = some (.int .i64 (tv : Int))) (first | go_keep | (refine ⟨?_, ?_⟩ <;> (rw [f0x _ _ _ _ _ _ (by assumption)]; assumption)))
        (first | (go_at_call_of 211 (Value.int .i64 (x : Int)); refine (jB x y _ Ab Ab).mono ?_; rintro e w' ⟨rfl, rfl⟩) | (go_at_call 212; refine (d0N _ _ htl _).mono ?_; rintro e w' ⟨rfl, nl, rfl⟩) | (go_at_call 211; refine (f0B x y _ Ab Ab).mono ?_; rintro e w' ⟨rfl, rfl⟩))
       all_goals go_wp2
       go_roundw
       case rel =>
        have e : iL S (aW 24) (a0G S (aW 24) col x) x d (y + 1) = (iL S (aW 24) (a0G S (aW 24) col x) x d y).set (dC y (2 * x + 3 * y)) (c0u (wx sv d) tv) := by
         rw [rB, rS, HSV.out, HTV.out]; rfl
        refine ⟨y + 1, by omega, by go_num, (hcy.drewN _).other _ _ _ Ab, ?_, (hfy.drewN _).setCell _ _ _ _ (fun h => by have := HGC.out; omega)⟩
        rw [e, ← nM]
        exact (hmy.drewN _).set _ _
       case measure => simp [intOf]; omega
      ·have hge : ¬ ((y : Int) < 5) := by omega
       have hy5 : y = 5 := by omega
       have HY := qH hy5; clear hy5
       go_wp2_with fail
       go_roundw
       case rel =>
        rw [HY.out, HD.out, ← a0N] at hmy
        first
         | exact ⟨x + 1, by omega, by go_num, hcy, hmy, hfy⟩
         | exact ⟨x + 1, by omega, by omega, hmy⟩
       case measure => simp [intOf]; omega
    ·have hge : ¬ ((x : Int) < 5) := by omega
     have hx5 : x = 5 := by omega
     have hml : (a0G S (aW 24) col x).length = 25 := d0R _ _ _ _
     have hmv : a0G S (aW 24) col x = a0G S (aW 24) (vQ S 5) 5 := by rw [hx5, HCOL.out]
     generalize a0G S (aW 24) col x = mv at *
     have HMV := qH hmv; clear hmv hx5
     have HGC := qH hgc; clear hgc
     have HS := qH hS; clear hS
     have HCL := qH hcl; clear hcl
     have hgb : gc ≤ wr.heap.size := by have := hfx.size; have := HGC.out; omega
     go_wp2_with (at_make; refine eP rfl rfl underlying226 rV rfl rfl rfl 25 25 Ae Ae Ab Ab Al ?_; intro w3 hw3 hf3 hz3)
     have ho3 : Has w3 wr.heap.size (ws (a0H mv 0)) 58 := by simpa [a0H, ws] using hw3
     have hgo : gm < wr.heap.size := hmx.lt
     have hm3 := hmx.keep hf3 id
     have hfr3 := hfx.same hf3
     generalize wr.heap.size = go at *
     clear hw3 hf3 hz3 hcx hmx hfx
     go_wp2_with fail
     go_loopw [15] (fun i wr => ∃ x : Nat, x ≤ 5 ∧ i = .int .i64 x ∧ Has wr gm (ws mv) 58 ∧ Has wr go (ws (a0H mv x)) 58 ∧ Fr Nob w wr) (fun i _ => (5 - intOf i).toNat)
     case atStart => exact ⟨0, by omega, rfl, hm3, ho3, hfr3⟩
     case round =>
      obtain ⟨x, hx, rfl, hmx, hox, hfx⟩ := hrel
      clear hm3 ho3 hfr3
      by_cases hlt5 : x < 5
      ·have hlt5I : (x : Int) < 5 := by omega
       obtain ⟨wo, rfl⟩ : ∃ wo : World, wo = wr := ⟨_, rfl⟩
       go_wp2_with fail
       go_loopw [16] (fun i wr => ∃ y : Nat, y ≤ 5 ∧ i = .int .i64 y ∧ Has wr gm (ws mv) 58 ∧ Has wr go (ws (iM mv (a0H mv x) x y)) 58 ∧ Fr Nob w wr) (fun i _ => (5 - intOf i).toNat)
       case atStart => exact ⟨0, by omega, rfl, hmx, by rw [a0Q]; exact hox, hfx⟩
       case round =>
        obtain ⟨y, hy, rfl, hmy, hoy, hfy⟩ := hrel
        clear hmx hox hfx
        by_cases hlt6 : y < 5
        ·have hlt6I : (y : Int) < 5 := by omega
         have hp0 := iT x y
         have hp1 := iT (x + 1) y
         have hp2 := iT (x + 2) y
         have h0 : wr.cell? ⟨gm, dC x y, none⟩ = some (.int .u64 ((mv.getD (dC x y) 0).toNat : Int)) := hmy.cell (fN _ _ Ab)
         have h1 : wr.cell? ⟨gm, dC (x + 1) y, none⟩ = some (.int .u64 ((mv.getD (dC (x + 1) y) 0).toNat : Int)) := hmy.cell (fN _ _ Ab)
         have h2 : wr.cell? ⟨gm, dC (x + 2) y, none⟩ = some (.int .u64 ((mv.getD (dC (x + 2) y) 0).toNat : Int)) := hmy.cell (fN _ _ Ab)
         obtain ⟨v0, hc0, hf0⟩ := hoy.ready (i := dC x y) (by rw [bW, tB, yM]; exact hp0)
         have hpi : (0 : Int) ≤ (dC x y : Int) ∧ (dC x y : Int) < 25 ∧ (0 : Int) ≤ (dC (x + 1) y : Int) ∧ (dC (x + 1) y : Int) < 25 ∧ (0 : Int) ≤ (dC (x + 2) y : Int) ∧ (dC (x + 2) y : Int) < 25 := by omega
         generalize hv0 : mv.getD (dC x y) 0 = y0 at h0
         generalize hv1 : mv.getD (dC (x + 1) y) 0 = y1 at h1
         generalize hv2 : mv.getD (dC (x + 2) y) 0 = y2 at h2
         have HV0 := qH hv0; clear hv0
         have HV1 := qH hv1; clear hv1
         have HV2 := qH hv2; clear hv2
         have HML := qH hml; clear hml hp0 hp1 hp2
         go_wp2_with fail
         have e1 : IntKind.i64.wrap ((x : Int) + 1) = (x : Int) + 1 := IntWalk.i64_in _ Ab
         have e2 : IntKind.i64.wrap ((x : Int) + 2) = (x : Int) + 2 := IntWalk.i64_in _ Ab
         refine wp_region_still_tail 28 Aa Aa ?_
         simp only [List.take_succ_cons, List.take_zero, List.drop_succ_cons, List.drop_zero]
         repeat still_step
         still_call (jB x y _ Ab Ab)
         repeat still_step
         still_call (jB x y _ Ab Ab)
         repeat still_step
         still_call (n0O x y _ Ab Ab)
         repeat still_step
         still_call (n0P x y _ Ab Ab)
         repeat still_step
         refine wpStill_nil ?_
         go_wp2
         go_roundw
         case rel =>
          have e : iM mv (a0H mv x) x (y + 1) = (iM mv (a0H mv x) x y).set (dC x y) (wx y0 (wa (wn y1) y2)) := by
           rw [rC, rT, HV0.out, HV1.out, HV2.out]; rfl
          refine ⟨y + 1, by omega, by go_num, (hmy.other _ _ _ Ab).drew, ?_, (hfy.setCell _ _ _ _ (fun h => by have := HGC.out; omega)).drew⟩
          rw [e, ← nM]
          exact (hoy.set _ _).drew
         case measure => simp [intOf]; omega
        ·have hge : ¬ ((y : Int) < 5) := by omega
         have hy5 : y = 5 := by omega
         have HY := qH hy5; clear hy5
         go_wp2_with fail
         go_roundw
         case rel =>
          rw [HY.out, ← a0P] at hoy
          first
           | exact ⟨x + 1, by omega, by go_num, hmy, hoy, hfy⟩
           | exact ⟨x + 1, by omega, by omega, hoy⟩
         case measure => simp [intOf]; omega
      ·have hge : ¬ ((x : Int) < 5) := by omega
       have hx5 : x = 5 := by omega
       have hol : (a0H mv x).length = 25 := yM mv x
       have hcell : wr.cell? ⟨go, 0, none⟩ = some (.int .u64 (((a0H mv x).getD 0 0).toNat : Int)) := hox.cell (fN _ _ Ab)
       have hfree : wr.frozen? ⟨go, 0, none⟩ = false := hox.free _ (by rw [bW]; omega)
       generalize hu : (a0H mv x).getD 0 0 = u at hcell
       have HU := qH hu; clear hu
       have HX5 := qH hx5; clear hx5
       have HOL := qH hol; clear hol
       have HML := qH hml; clear hml
       go_wp2_with fail
       try go_region
       all_goals go_wp2
       go_ret
       have e : oK (aW 24) S c = (a0H mv x).set 0 (wx u c) := by
        rw [oK, ← HMV.out, ← HX5.out, HU.out]; rfl
       refine ⟨go, rfl, by have := HGC.out; omega, ?_, hfx.setCell _ _ _ _ (fun h => by have := HGC.out; omega)⟩
       rw [e, ← nM]
       exact hox.set _ _
end
end Go.Proofs.YtemcankmggmgoaaGreat
namespace Mvp
def bJ : List UInt64 := List.replicate 25 0
def cO (S : List UInt64) : List UInt64 := dD (aW 24) (fun r => rcP r 8) S 24
def eD (l : List UInt8) : List UInt8 := toB (cO (oN bJ l 200)) 200
theorem oO (S : List UInt64) : (cO S).length = S.length := sW _ _ _ _
theorem k0u (S : List UInt64) (h : S.length = 25) : nJ (aW 24) (fun r => rcR r 7) S 24 = cO S :=
 (h0d (aW 24) (fun r => rcP r 8) (fun r => rcR r 7) S h 24 (fun r hr => n0J r hr)).symm
def a0R (s : List UInt64) (i : Nat) (x : UInt8) : List UInt64 := s.set (i / 8) (wo (s.getD (i / 8) 0) (shl (wid x) (8 * (i % 8))))
def orB (s : List UInt64) (b : List UInt8) (k : Nat) : List UInt64 := (List.range k).foldl (fun s i => a0R s i (b.getD i 0)) s
theorem yN (s : List UInt64) (b : List UInt8) (k : Nat) : orB s b (k + 1) = a0R (orB s b k) k (b.getD k 0) := by simp [orB, List.range_succ]
theorem n0Q (s : List UInt64) (b : List UInt8) (k : Nat) : (orB s b k).length = s.length := by
 induction k with
 | zero => simp [orB]
 | succ k ih => rw [yN]; simp [a0R, ih]
theorem q0i (x y k : Nat) (h : x < 2 ^ k) : x ||| (y * 2 ^ k) = x ^^^ (y * 2 ^ k) := by
 apply Nat.eq_of_testBit_eq
 intro i
 rw [Nat.testBit_or, Nat.testBit_xor]
 rcases Nat.lt_or_ge i k with hi | hi
 ·have : (y * 2 ^ k).testBit i = false := by rw [Nat.testBit_mul_two_pow]; simp; omega
  simp [this]
 ·have : x.testBit i = false := Nat.testBit_lt_two_pow (Nat.lt_of_lt_of_le h (Nat.pow_le_pow_right Ab hi))
  simp [this]
theorem c0G (x : UInt8) (k : Nat) (hk : k ≤ 56) : (shl (wid x) k).toNat = x.toNat * 2 ^ k := by
 have hx := x.toNat_lt
 have h1 : x.toNat * 2 ^ k < 2 ^ 8 * 2 ^ 56 := by
  have h2 : 2 ^ k ≤ 2 ^ 56 := Nat.pow_le_pow_right Ab hk
  have h3 : 0 < 2 ^ k := Nat.two_pow_pos k
  calc x.toNat * 2 ^ k < 2 ^ 8 * 2 ^ k := Nat.mul_lt_mul_of_pos_right hx h3
   _ ≤ 2 ^ 8 * 2 ^ 56 := Nat.mul_le_mul_left _ h2
 simp only [shl, wid, UInt64.toNat_ofNat', UInt8.toNat_toUInt64]
 exact Nat.mod_eq_of_lt (by simpa using h1)
theorem s0t (a : UInt64) (x : UInt8) (k : Nat) (hk : k ≤ 56) (h : a.toNat < 2 ^ k) : wo a (shl (wid x) k) = wx a (shl (wid x) k) := by
 apply UInt64.toNat_inj.1
 simp only [wo, wx, UInt64.toNat_or, UInt64.toNat_xor]
 rw [c0G x k hk, q0i _ _ _ h]
theorem s0u (a : UInt64) (x : UInt8) (k : Nat) (hk : k ≤ 56) (h : a.toNat < 2 ^ k) : (wx a (shl (wid x) k)).toNat < 2 ^ (k + 8) := by
 simp only [wx, UInt64.toNat_xor]
 rw [c0G x k hk]
 have hx := x.toNat_lt
 refine Nat.xor_lt_two_pow (Nat.lt_of_lt_of_le h (Nat.pow_le_pow_right Ab Ab)) ?_
 rw [Nat.pow_add, Nat.mul_comm (2 ^ k)]
 exact Nat.mul_lt_mul_of_pos_right hx (Nat.two_pow_pos k)
theorem d0S (s : List UInt64) (i j : Nat) (v : UInt64) (hi : i < s.length) : (s.set i v).getD j 0 = if i = j then v else s.getD j 0 := by
 have _h := hi
 simp only [List.getD_eq_getElem?_getD, List.getElem?_set]
 split
 ·rename_i h; subst h; simp
 ·rfl
theorem n0R (b : List UInt8) (k : Nat) (hk : k ≤ 200) : orB bJ b k = oN bJ b k ∧ (∀ j, j < 25 → ((oN bJ b k).getD j 0).toNat < 2 ^ (8 * min (k - 8 * j) 8)) := by
 induction k with
 | zero =>
  refine ⟨by simp [orB, oN], fun j hj => ?_⟩
  have hz : ∀ j, j < 25 → bJ.getD j 0 = 0 := by decide
  have e : oN bJ b 0 = bJ := by simp [oN]
  rw [e, hz j hj]
  simp
 | succ k ih =>
  obtain ⟨h1, h2⟩ := ih Ab
  have hl : (oN bJ b k).length = 25 := by rw [rU]; simp [bJ]
  have hk8 : k / 8 < 25 := by omega
  have h3 := h2 (k / 8) hk8
  have e3 : min (k - 8 * (k / 8)) 8 = k % 8 := by omega
  rw [e3] at h3
  refine ⟨?_, fun j hj => ?_⟩
  ·rw [yN, mC, h1, a0R, fQ, s0t _ _ _ Ab h3]
  ·rw [mC, fQ, d0S _ _ _ _ Ab]
   split
   ·rename_i e
    subst e
    have := s0u ((oN bJ b k).getD (k / 8) 0) (b.getD k 0) (8 * (k % 8)) Ab h3
    have e4 : 8 * min (k + 1 - 8 * (k / 8)) 8 = 8 * (k % 8) + 8 := by omega
    rw [e4]; exact this
   ·rename_i e
    have e5 : min (k + 1 - 8 * j) 8 = min (k - 8 * j) 8 := by omega
    rw [e5]; exact h2 j hj
end Mvp
namespace Go.Proofs.YtemcankmggmgoaaGreat
section
open Go.RowKit Go.Mv Mvp
end
section
open Go.RowKit Go.Mv Mvp
theorem f0C (t : List Nat) (s : List UInt64) (c : UInt64) : (oK t s c).length = 25 := by simp [oK, yM]
theorem a0S (t : List Nat) (rc : Nat → UInt64) (s : List UInt64) (k : Nat) (h : s.length = 25) : (nJ t rc s k).length = 25 := by
 cases k with
 | zero => simpa [nJ] using h
 | succ k => rw [qJ, f0C]
theorem rD (s : ByteArray) (w : World) (hs : s.size = 200) :
  Calls prog 197 #[.string s] w fun e w' => e = .returned (.string (mkS (eD s.data.toList))) ∧ Fr Nob w w' := by
 have hsb : s.size ≤ 200 := by omega
 have HSZ := qH hs; clear hs
 go_enter func197, ntmps197
 go_wp2_with (at_make; refine eP rfl rfl underlying226 rV rfl rfl rfl 25 25 Ae Ae Ab Ab Al ?_; intro w1 hw1 hf1 hz1)
 have ha1 : Has w1 w.heap.size (ws (orB bJ s.data.toList 0)) 58 := by simpa [orB, bJ, ws] using hw1
 generalize hga : w.heap.size = ga at *
 clear hw1
 have HGA := qH hga; clear hga
 go_loopw [4] (fun i wr => ∃ k : Nat, k ≤ 200 ∧ i = .int .i64 k ∧ Has wr ga (ws (orB bJ s.data.toList k)) 58 ∧ Fr Nob w wr) (fun i _ => (200 - intOf i).toNat)
 case atStart => exact ⟨0, by omega, rfl, ha1, hf1⟩
 case round =>
  obtain ⟨k, hk, rfl, hak, hf⟩ := hrel
  clear ha1 hf1 hz1
  by_cases hlt : k < 200
  ·have hltI : (k : Int) < 200 := by omega
   have hol : (orB bJ s.data.toList k).length = 25 := by rw [n0Q]; simp [bJ]
   have hx : ∀ h1 : k < s.size, s[k]'h1 = s.data.toList.getD k 0 := by
    intro h1
    rw [List.getD_eq_getElem?_getD, List.getElem?_eq_getElem (by simpa using h1)]
    simp
    rfl
   have hc : wr.cell? ⟨ga, k / 8, none⟩ = some (.int .u64 (((orB bJ s.data.toList k).getD (k / 8) 0).toNat : Int)) := hak.cell (fN _ _ Ab)
   have hfz : wr.frozen? ⟨ga, k / 8, none⟩ = false := hak.free _ (by rw [bW]; omega)
   have hlo : (0 : Int) ≤ (k : Int) / 8 ∧ (k : Int) / 8 < 25 := by omega
   generalize hy : (orB bJ s.data.toList k).getD (k / 8) 0 = y at hc
   generalize hxx : s.data.toList.getD k 0 = x at hx
   have HY := qH hy; clear hy
   have HX := qH hxx; clear hxx
   have HOL := qH hol; clear hol
   go_wp2_with fail
   have e1 : IntKind.i64.wrap ((k : Int) / 8) = (k : Int) / 8 := IntWalk.i64_in _ Ab
   have hks : (k : Int) < (s.size : Int) := by have := HSZ.out; omega
   have e2 : (k : Int).tmod 8 = (k : Int) % 8 := Int.tmod_eq_emod_of_nonneg Ab
   have e3 : IntKind.i64.wrap (8 * ((k : Int) % 8)) = 8 * ((k : Int) % 8) := IntWalk.i64_in _ Ab
   have e4 : ((k : Int) / 8).toNat = k / 8 := by omega
   refine wp_region_still_tail 18 Aa Aa ?_
   simp only [List.take_succ_cons, List.take_zero, List.drop_succ_cons, List.drop_zero]
   repeat still_step
   refine wpStill_nil ?_
   go_wp2
   go_roundw
   case rel =>
    have e : orB bJ s.data.toList (k + 1) = (orB bJ s.data.toList k).set (k / 8) (wo y (shl (wid x) (8 * (k % 8)))) := by
     rw [yN, a0R, HX.out, HY.out]
    refine ⟨k + 1, by omega, by go_num, ?_, (hf.setCell _ _ _ _ (fun h => by have := HGA.out; omega)).drew⟩
    rw [e, ← nM]
    exact (hak.set _ _).drew
   case measure => simp [intOf]; omega
  ·have hge : ¬ ((k : Int) < 200) := by omega
   have hk200 : k = 200 := by omega
   have hor : orB bJ s.data.toList k = oN bJ s.data.toList 200 := by rw [hk200]; exact (n0R s.data.toList 200 Ab).1
   rw [hor] at hak
   have hsl : (oN bJ s.data.toList 200).length = 25 := by rw [rU]; simp [bJ]
   have hpb : eD s.data.toList = toB (nJ (aW 24) (fun r => rcR r 7) (oN bJ s.data.toList 200) 24) 200 := by rw [k0u _ hsl]; rfl
   generalize oN bJ s.data.toList 200 = S at *
   clear hor hk200
   have HPB := qH hpb; clear hpb
   have HSL := qH hsl; clear hsl
   go_wp2_with fail
   refine (c0B _).mono ?_
   rintro e w2 ⟨rfl, ht2, hf2⟩
   have ha2 := hak.keep hf2 id
   have hfr2 := hf.then hf2
   generalize wr.heap.size = gt at *
   clear hak hf hf2
   go_wp2_with fail
   go_loopw [3, 6] (fun v i wr => ∃ (r g : Nat), r ≤ 24 ∧ i = .int .i64 r ∧ v = .slice (some ⟨g, 0, none⟩) 25 25 ∧ Has wr g (ws (nJ (aW 24) (fun r => rcR r 7) S r)) 58 ∧ Has wr gt (is (aW 24)) 3 ∧ Fr Nob w wr) (fun _ i _ => (24 - intOf i).toNat)
   case atStart => exact ⟨0, ga, by omega, rfl, rfl, by simpa [nJ] using ha2, ht2, hfr2⟩
   case round =>
    obtain ⟨r, g, hr, rfl, rfl, hgr, htr, hfr⟩ := hrel
    clear ha2 ht2 hfr2
    by_cases hlt2 : r < 24
    ·have hlt2I : (r : Int) < 24 := by omega
     have hpl : (nJ (aW 24) (fun r => rcR r 7) S r).length = 25 := a0S _ _ _ _ HSL.out
     go_wp2_with fail
     refine (f0w r hlt2 _).mono ?_
     rintro e w' ⟨rfl, rfl⟩
     go_wp2_with fail
     refine (h0r _ _ 25 _ _ (nJ (aW 24) (fun r => rcR r 7) S r) (rcR r 7) _ rfl (by have := Rd.whole hgr; rwa [bW, hpl] at this) (by have := Rd.whole htr; rwa [kI, fI] at this)).mono ?_
     rintro e w3 ⟨g3, rfl, hg3, hh3, hf3⟩
     go_wp2_with fail
     go_roundw
     case rel => exact ⟨r + 1, g3, by omega, by go_num, rfl, by rw [qJ]; exact hh3, htr.keep hf3 id, hfr.then hf3⟩
     case measure => simp [intOf]; omega
    ·have hge2 : ¬ ((r : Int) < 24) := by omega
     have hr24 : r = 24 := by omega
     have hpl : (nJ (aW 24) (fun r => rcR r 7) S r).length = 25 := a0S _ _ _ _ HSL.out
     have hpb2 : eD s.data.toList = toB (nJ (aW 24) (fun r => rcR r 7) S r) 200 := by rw [HPB.out, hr24]
     generalize nJ (aW 24) (fun r => rcR r 7) S r = R at *
     have HPB2 := qH hpb2; clear hpb2
     clear hr24 htr
     go_wp2_with (at_make; refine eP rfl rfl underlying22 dT rfl rfl rfl 200 200 Ae Ae Ab Ab Al ?_; intro w4 hw4 hf4 hz4)
     have hgo : g < wr.heap.size := hgr.lt
     have hgb : w.heap.size ≤ wr.heap.size := hfr.size
     have ho4 : Has w4 wr.heap.size (bs (fill (toB R 200) (List.replicate 200 0) 0)) 5 := by rw [a0B]; simpa [bs] using hw4
     have hg4 := hgr.keep hf4 id
     have hfr4 := hfr.then hf4
     generalize wr.heap.size = go at *
     clear hw4 hf4 hz4 hgr hfr
     go_wp2_with fail
     go_loopw [8] (fun i wr => ∃ k : Nat, k ≤ 200 ∧ i = .int .i64 k ∧ Has wr go (bs (fill (toB R 200) (List.replicate 200 0) k)) 5 ∧ Has wr g (ws R) 58 ∧ Fr Nob w wr) (fun i _ => (200 - intOf i).toNat)
     case atStart => exact ⟨0, by omega, rfl, ho4, hg4, hfr4⟩
     case round =>
      obtain ⟨k, hk, rfl, hh, hg2, hf⟩ := hrel
      clear ho4 hg4 hfr4
      by_cases hlt3 : k < 200
      ·have hlt3I : (k : Int) < 200 := by omega
       obtain ⟨v0, hc0, hfr0⟩ := hh.ready (i := k) (by rw [bP, nX _ _ _ Bl]; simpa using hlt3)
       have hc : wr.cell? ⟨g, k / 8, none⟩ = some (.int .u64 ((R.getD (k / 8) 0).toNat : Int)) := hg2.cell (fN _ _ Ab)
       have hlo : (0 : Int) ≤ (k : Int) / 8 ∧ (k : Int) / 8 < 25 := by omega
       generalize hy : R.getD (k / 8) 0 = y at hc
       have HY := qH hy; clear hy
       have HPL := qH hpl; clear hpl
       go_wp2
       go_roundw
       case rel =>
        have e : (toB R 200).getD k 0 = lo8 (shr y (8 * (k % 8))) := by rw [m0I R 200 k hlt3, kM, HY.out]
        refine ⟨k + 1, by omega, by go_num, ?_, hg2.other _ _ _ Ab, hf.setCell _ _ _ _ (fun h => absurd h Ab)⟩
        rw [← e]
        exact hh.fillB Bl (by simpa [eC] using hlt3)
       case measure => simp [intOf]; omega
      ·have hge3 : ¬ ((k : Int) < 200) := by omega
       rw [yF _ _ _ Bl (by simp [eC]; omega)] at hh
       go_wp2_with (with_reducible refine AA 61 ?_)
       refine fE rfl rfl underlying22 underlying5 underlying9 rfl (l := toB R 200) (by have := Rd.whole hh; rwa [bP, eC] at this) ?_
       go_wp2
       go_ret
       exact ⟨by rw [HPB2.out]; rfl, hf⟩
end
end Go.Proofs.YtemcankmggmgoaaGreat
namespace Mvp
def a0T (st : List UInt64 × Nat) (x : UInt8) : List UInt64 × Nat :=
 if st.2 + 1 = 136 then (cO (fQ st.1 st.2 x), 0) else (fQ st.1 st.2 x, st.2 + 1)
def eU (st : List UInt64 × Nat) (l : List UInt8) : List UInt64 × Nat := l.foldl a0T st
theorem jG (st : List UInt64 × Nat) (l m : List UInt8) : eU st (l ++ m) = eU (eU st l) m := by simp [eU]
theorem rW (st : List UInt64 × Nat) : eU st [] = st := rfl
theorem kO (st : List UInt64 × Nat) (x : UInt8) (l : List UInt8) : eU st (x :: l) = eU (a0T st x) l := rfl
def gH : List UInt64 → Nat → List UInt8 → List UInt64
 | S, _, [] => S
 | S, k, x :: l => gH (fQ S k x) (k + 1) l
theorem lA (S : List UInt64) (k : Nat) (x : UInt8) : (fQ S k x).length = S.length := by simp [fQ]
theorem tD (l : List UInt8) : ∀ (S : List UInt64) (k : Nat), (gH S k l).length = S.length := by
 induction l with
 | nil => intro S k; rfl
 | cons x l ih => intro S k; rw [gH, ih, lA]
theorem f0D (l : List UInt8) : ∀ (S : List UInt64) (k : Nat), k + l.length < 136 → eU (S, k) l = (gH S k l, k + l.length) := by
 induction l with
 | nil => intro S k _; rfl
 | cons x l ih =>
  intro S k h
  simp only [List.length_cons] at h
  rw [kO, a0T, if_neg Ao, ih _ _ Ao, gH]
  simp; omega
theorem tE (l : List UInt8) : ∀ (S : List UInt64) (k : Nat), k + l.length = 136 → k < 136 → eU (S, k) l = (cO (gH S k l), 0) := by
 induction l with
 | nil => intro S k h h'; simp at h; omega
 | cons x l ih =>
  intro S k h h'
  simp only [List.length_cons] at h
  by_cases hl : l = []
  ·subst hl
   simp at h
   rw [kO, a0T, if_pos Ao, rW]
   rfl
  ·have hp : 0 < l.length := List.length_pos_iff.2 hl
   rw [kO, a0T, if_neg Ao, ih _ _ Ao Ao, gH]
theorem yO (l : List UInt8) : ∀ (st : List UInt64 × Nat), st.2 < 136 → (eU st l).2 < 136 := by
 induction l with
 | nil => intro st h; exact h
 | cons x l ih =>
  intro st h
  rw [kO]
  apply ih
  unfold a0T
  split
  ·simp
  ·simp; omega
theorem oP (l : List UInt8) : ∀ (st : List UInt64 × Nat), (eU st l).1.length = st.1.length := by
 induction l with
 | nil => intro st; rfl
 | cons x l ih =>
  intro st
  rw [kO, ih]
  unfold a0T
  split
  ·simp [oO, lA]
  ·simp [lA]
theorem a0U (S : List UInt64) (k : Nat) : fQ S k 0 = S := by
 have e : shl (wid 0) (8 * (k % 8)) = 0 := by
  apply UInt64.toNat_inj.1
  simp [shl, wid]
 unfold fQ
 rw [e]
 have e2 : wx (S.getD (k / 8) 0) 0 = S.getD (k / 8) 0 := by simp [wx]
 rw [e2]
 rcases Nat.lt_or_ge (k / 8) S.length with h | h
 ·have e3 : S.getD (k / 8) 0 = S[k / 8] := by simp [List.getD_eq_getElem?_getD, h]
  rw [e3]; simp
 ·exact List.set_eq_of_length_le h
theorem h0s (S : List UInt64) (b : List UInt8) (n : Nat) : n ≤ b.length → oN S b n = gH S 0 (b.take n) := by
 have key : ∀ (l : List UInt8) (S : List UInt64) (k : Nat) (x : UInt8), gH S k (l ++ [x]) = fQ (gH S k l) (k + l.length) x := by
  intro l
  induction l with
  | nil => intro S k x; rfl
  | cons y l ih =>
   intro S k x
   rw [List.cons_append, gH, ih, gH]
   simp [Nat.add_assoc, Nat.add_comm 1]
 induction n with
 | zero => intro _; simp [oN, gH]
 | succ n ih =>
  intro h
  have hn : n < b.length := by omega
  rw [mC, ih Ab, List.take_succ_eq_append_getElem hn, key]
  congr 1
  ·simp; omega
  ·simp [List.getD_eq_getElem?_getD, hn]
theorem c0H (S : List UInt64) (k : Nat) (l : List UInt8) : ∀ j, gH S j (List.replicate k 0 ++ l) = gH S (j + k) l := by
 induction k with
 | zero => intro j; simp
 | succ k ih =>
  intro j
  rw [List.replicate_succ, List.cons_append, gH, a0U, ih, Nat.add_assoc, Nat.add_comm 1 k]
theorem wP (S : List UInt64) (k : Nat) (l rest : List UInt8) : oN S (List.replicate k 0 ++ l ++ rest) (k + l.length) = gH S k l := by
 rw [h0s _ _ _ Ae, List.take_left' Ae, c0H]
 simp
attribute [local irreducible] cO toB
def d0T (k : Nat) (e : UInt8) : List UInt8 := ((e :: List.replicate (135 - k) 0).set (135 - k) (bx (((e :: List.replicate (135 - k) 0)).getD (135 - k) 0) 0x80))
theorem d0U (k : Nat) (e : UInt8) (h : k < 136) : (d0T k e).length = 136 - k := by simp [d0T]; omega
def vU (st : List UInt64 × Nat) (e : UInt8) : List UInt64 := (eU st (d0T st.2 e)).1
def bG (S : List UInt64) : Nat → List UInt8
 | 0 => []
 | k + 1 => toB S 136 ++ bG (cO S) k
def cR (S : List UInt64) : Nat → List UInt64
 | 0 => S
 | k + 1 => cR (cO S) k
theorem wQ (k : Nat) : ∀ (S : List UInt64), cR S (k + 1) = cO (cR S k) := by
 induction k with
 | zero => intro S; rfl
 | succ k ih => intro S; rw [cR, ih]; rfl
theorem a0V (k : Nat) : ∀ (S : List UInt64), (cR S k).length = S.length := by
 induction k with
 | zero => intro S; rfl
 | succ k ih => intro S; rw [cR, ih, oO]
theorem nZ (k : Nat) : ∀ (S : List UInt64), (bG S k).length = 136 * k := by
 induction k with
 | zero => intro S; rfl
 | succ k ih => intro S; rw [bG, List.length_append, eC, ih]; omega
theorem rE (k : Nat) : ∀ (S : List UInt64), bG S (k + 1) = bG S k ++ toB (cR S k) 136 := by
 induction k with
 | zero => intro S; simp [bG, cR]
 | succ k ih => intro S; rw [bG, ih (cO S)]; rw [bG, cR, List.append_assoc]
def mD (n : Nat) : Nat := (n + 135) / 136
def n0S (S : List UInt64) (n : Nat) : List UInt8 := (bG S (mD n)).take n
theorem k0v (S : List UInt64) (n : Nat) : (n0S S n).length = n := by
 simp only [n0S, List.length_take, nZ, mD]; omega
def bH (l : List UInt8) (e : UInt8) (n : Nat) : List UInt8 := n0S (vU (eU (bJ, 0) l) e) n
theorem tF (l : List UInt8) (e : UInt8) (n : Nat) : (bH l e n).length = n := k0v _ _
end Mvp
namespace Mvp
theorem oQ (a : UInt64) (k : Nat) : (lo8 (shr a k)).toNat = a.toNat / 2 ^ k % 256 := by
 have h : a.toNat / 2 ^ k < 18446744073709551616 := Nat.lt_of_le_of_lt (Nat.div_le_self _ _) a.toNat_lt
 simp only [lo8, shr, UInt64.toNat_toUInt8, UInt64.toNat_ofNat']
 omega
theorem oR (a : UInt64) (k i : Nat) : (lo8 (shr a k)).toNat.testBit i = (decide (i < 8) && a.toNat.testBit (i + k)) := by
 rw [oQ, show (256 : Nat) = 2 ^ 8 from rfl, Nat.testBit_mod_two_pow, Nat.testBit_div_two_pow]
theorem yP (x : UInt8) (i : Nat) (h : 8 ≤ i) : x.toNat.testBit i = false :=
 Nat.testBit_lt_two_pow (Nat.lt_of_lt_of_le x.toNat_lt (by have := Nat.pow_le_pow_right (show 0 < 2 by omega) h; simpa using this))
theorem k0w (a : UInt64) (x : UInt8) (m t : Nat) (hm : m < 8) (_ht : t < 8) :
  lo8 (shr (wx a (shl (wid x) (8 * m))) (8 * t)) = if t = m then bx (lo8 (shr a (8 * m))) x else lo8 (shr a (8 * t)) := by
 apply UInt8.toNat_inj.1
 apply Nat.eq_of_testBit_eq
 intro i
 rw [oR]
 have hw : (wx a (shl (wid x) (8 * m))).toNat = a.toNat ^^^ (x.toNat * 2 ^ (8 * m)) := by
  simp only [wx, UInt64.toNat_xor]; rw [c0G x _ Ab]
 rw [hw, Nat.testBit_xor, Nat.testBit_mul_two_pow]
 by_cases hi : i < 8
 ·by_cases e : t = m
  ·subst e
   rw [if_pos rfl]
   simp only [bx, UInt8.toNat_xor, Nat.testBit_xor, oR]
   simp [hi]
  ·rw [if_neg e, oR]
   have hz : (decide (8 * m ≤ i + 8 * t) && x.toNat.testBit (i + 8 * t - 8 * m)) = false := by
    rcases Nat.lt_or_ge t m with h | h
    ·have : ¬ (8 * m ≤ i + 8 * t) := by omega
     simp [this]
    ·rw [yP x _ Ab]; simp
   rw [hz]; simp [hi]
 ·have h1 : (decide (i < 8)) = false := by simp [hi]
  rw [h1]
  split
  ·rw [yP _ i Ab]; rfl
  ·rw [yP _ i Ab]; rfl
theorem yQ (S : List UInt64) (hS : S.length = 25) (k i : Nat) (x : UInt8) (hk : k < 200) : kM (fQ S k x) i = if i = k then bx (kM S k) x else kM S i := by
 unfold kM fQ
 rw [d0S _ _ _ _ Ab]
 by_cases hd : k / 8 = i / 8
 ·rw [if_pos hd, k0w _ _ _ _ Ab Ab, ← hd]
  by_cases e : i = k
  ·rw [if_pos e, if_pos Ab]
  ·rw [if_neg e, if_neg Ab]
 ·rw [if_neg hd, if_neg Ab]
theorem h0t (S S' : List UInt64) (h : S.length = 25) (h' : S'.length = 25) (hb : ∀ i, i < 200 → kM S i = kM S' i) : S = S' := by
 apply List.ext_getElem Ab
 intro j hj hj'
 have hw : ∀ (T : List UInt64) (hT : j < T.length), T.getD j 0 = T[j] := fun T hT => by simp [List.getD_eq_getElem?_getD, hT]
 rw [← hw S hj, ← hw S' hj']
 apply UInt64.toNat_inj.1
 apply Nat.eq_of_testBit_eq
 intro i
 rcases Nat.lt_or_ge i 64 with hi | hi
 ·have h1 := hb (8 * j + i / 8) Ab
  have h2 := congrArg (fun y : UInt8 => y.toNat.testBit (i % 8)) h1
  simp only [kM] at h2
  rw [oR, oR, show (8 * j + i / 8) / 8 = j by omega, show (8 * j + i / 8) % 8 = i / 8 by omega, show i % 8 + 8 * (i / 8) = i by omega] at h2
  simpa [show i % 8 < 8 by omega] using h2
 ·have big : ∀ (y : UInt64), y.toNat.testBit i = false := fun y => Nat.testBit_lt_two_pow (Nat.lt_of_lt_of_le y.toNat_lt (by have := Nat.pow_le_pow_right (show 0 < 2 by omega) hi; simpa using this))
  rw [big, big]
theorem tG (l : List UInt8) : ∀ (S : List UInt64) (k i : Nat), S.length = 25 → k + l.length ≤ 200 → kM (gH S k l) i = if k ≤ i ∧ i < k + l.length then bx (kM S i) (l.getD (i - k) 0) else kM S i := by
 induction l with
 | nil => intro S k i _ _; rw [if_neg Ae]; rfl
 | cons x l ih =>
  intro S k i hS h
  simp only [List.length_cons] at h
  rw [gH, ih _ _ _ (by rw [lA, hS]) Ab, yQ S hS _ _ _ Ab]
  by_cases e : i = k
  ·subst e
   rw [if_neg Ab, if_pos rfl, if_pos Ae]
   simp
  ·by_cases hr : k + 1 ≤ i ∧ i < k + 1 + l.length
   ·rw [if_pos hr, if_neg e, if_pos Ao, show i - k = (i - (k + 1)) + 1 by omega, List.getD_cons_succ]
   ·rw [if_neg hr, if_neg e, if_neg Ao]
theorem h0u (S : List UInt64) (n i : Nat) (h : i < n) : (toB S n).getD i 0 = kM S i := by
 simp [toB, List.getD_eq_getElem?_getD, List.getElem?_range h]
theorem tH (i : Nat) : kM bJ i = 0 := by
 have hz : bJ.getD (i / 8) 0 = 0 := by
  rcases Nat.lt_or_ge (i / 8) 25 with h | h
  ·have : ∀ j, j < 25 → bJ.getD j 0 = 0 := by decide
   exact this _ h
  ·rw [List.getD_eq_getElem?_getD, List.getElem?_eq_none (by simpa [bJ] using h)]; rfl
 unfold kM
 rw [hz]
 apply UInt8.toNat_inj.1
 rw [oQ]; simp
theorem n0T (x : UInt8) : bx 0 x = x := by simp [bx]
theorem f0E (b : List UInt8) (hb : b.length = 200) (i : Nat) (hi : i < 200) : kM (oN bJ b 200) i = b.getD i 0 := by
 rw [h0s _ _ _ Ab, List.take_of_length_le Ab, tG b _ _ _ (by simp [bJ]) Ab, if_pos Ab, tH, n0T]
 simp
theorem d0V (S : List UInt64) (hS : S.length = 25) (l b : List UInt8) (hl : l.length ≤ 200) (hb : b.length = 200) (h : ∀ i, i < 200 → b.getD i 0 = if i < l.length then bx (kM S i) (l.getD i 0) else kM S i) : oN bJ b 200 = gH S 0 l := by
 refine h0t _ _ (by rw [rU]; simp [bJ]) (by rw [tD, hS]) (fun i hi => ?_)
 rw [f0E b hb i hi, tG l S 0 i hS Ab, h i hi]
 simp
end Mvp
namespace Go.Mv
open Go.RowKit
variable {P : Program}
theorem h0v (p : Option Addr) (m : Nat) : fY p 0 m = p := by
 unfold fY
 split
 ·rfl
 ·cases p with
  | none => rfl
  | some a => simp [Addr.add]
theorem oS (w : World) {ty : TypeId} {n : Nat} {e : TypeId} (hu : P.underlying ty = some (.array n e)) (hsz : (P.info? e).map (·.size) = some 1) (g p : Nat) (k : IntKind) (l : Nat) (h : l < n) :
  (Instr.sliceAt ty (.pointer (some ⟨g, p, none⟩)) (some (.int k (l : Int))) none none).run P w = .ok (.slice (some ⟨g, p + l, none⟩) (n - l) (n - l)) w := by
 obtain ⟨i, hi1, hi2⟩ : ∃ i, P.info? e = some i ∧ i.size = 1 := by simpa using hsz
 have hne : ¬ n = l := by omega
 have hle : l ≤ n := by omega
 simp [Instr.sliceAt, run_underlying hu, Instr.sliceBounds, cV, hle, sizeOf, typeInfo, hi1, hi2, hne, hH, Instr.sureAddr]
theorem lB (w : World) {ty : TypeId} {n : Nat} {e : TypeId} (hu : P.underlying ty = some (.array n e)) (hsz : (P.info? e).map (·.size) = some 1) (g p : Nat) (k : IntKind) (h : Nat) (hh : h ≤ n) :
  (Instr.sliceAt ty (.pointer (some ⟨g, p, none⟩)) none (some (.int k (h : Int))) none).run P w = .ok (.slice (some ⟨g, p, none⟩) h n) w := by
 obtain ⟨i, hi1, hi2⟩ : ∃ i, P.info? e = some i ∧ i.size = 1 := by simpa using hsz
 simp [Instr.sliceAt, run_underlying hu, Instr.sliceBounds, cV, hh, sizeOf, typeInfo, hi1, Addr.add, Instr.sureAddr]
theorem vV (w : World) {ty : TypeId} {n : Nat} {e : TypeId} (hu : P.underlying ty = some (.array n e)) (hsz : (P.info? e).map (·.size) = some 1) (g p : Nat) :
  (Instr.sliceAt ty (.pointer (some ⟨g, p, none⟩)) none none none).run P w = .ok (.slice (some ⟨g, p, none⟩) n n) w := by
 obtain ⟨i, hi1, hi2⟩ : ∃ i, P.info? e = some i ∧ i.size = 1 := by simpa using hsz
 simp [Instr.sliceAt, run_underlying hu, Instr.sliceBounds, sizeOf, typeInfo, hi1, Addr.add, Instr.sureAddr]
theorem fF (w : World) {ty e : TypeId} (hu : P.underlying ty = some (.slice e)) (hsz : (P.info? e).map (·.size) = some 1) (p : Option Addr) (n c : Nat) (k : IntKind) (h : Nat) (hh : h ≤ c) :
  (Instr.sliceAt ty (.slice p n c) none (some (.int k (h : Int))) none).run P w = .ok (.slice p h c) w := by
 obtain ⟨i, hi1, hi2⟩ : ∃ i, P.info? e = some i ∧ i.size = 1 := by simpa using hsz
 have := h0v p c
 simp [Instr.sliceAt, Instr.slice, run_underlying hu, Instr.sliceBounds, cV, hh, sizeOf, typeInfo, hi1, Addr.add]
theorem iF (w : World) {ty e : TypeId} (hu : P.underlying ty = some (.slice e)) (hsz : (P.info? e).map (·.size) = some 1) (p : Option Addr) (n c : Nat) (k : IntKind) (l : Nat) (hl : l ≤ n) :
  (Instr.sliceAt ty (.slice p n c) (some (.int k (l : Int))) none none).run P w = .ok (.slice (fY p l c) (n - l) (c - l)) w := by
 obtain ⟨i, hi1, hi2⟩ : ∃ i, P.info? e = some i ∧ i.size = 1 := by simpa using hsz
 simp [Instr.sliceAt, Instr.slice, run_underlying hu, Instr.sliceBounds, cV, hl, sizeOf, typeInfo, hi1, hi2, fY]
theorem q0j {w : World} {ops : Array Oper} {rest : List Oper} {o : Oper} {a : Act} {Q : Exit → Act → World → Prop} {x y : Operand} {ts : Array TypeId} (hgd : o.guard = none) (ho : o.op = .call { callee := .builtin .min, args := #[x, y], argTypes := ts })
  {k k' : IntKind} {xi yi : Int} (hx : a.eval x = .int k xi) (hy : a.eval y = .int k' yi) (r : Nat) (hr : (if yi < xi then yi else xi) = (r : Int)) (h : wpList P ops Q rest (a.put o.dst (.int k (r : Int))) w) : wpList P ops Q (o :: rest) a w := by
 refine wpList_plain hgd fun K hK => ?_
 have hrun : (Builtin.min_ ts o.type #[.int k xi, .int k' yi]).run P w = .ok (.int k (r : Int)) w := by rw [run_min_int2, hr]
 unfold Oper.wp execOp
 simp only [ho, resolve, invoke, builtin, Sem.run_bind, Sem.run_pure, Result.andThen_ok, List.map_toArray, List.map_cons, List.map_nil, hx, hy, hrun]
 exact hK _ _ h
end Go.Mv
