/- ; ; ; ; ; ; ; ; ; ; ; ; ; . -/
import Derived.WalkKit
import Derived.WalkLawsBesides
import Derived.WalkSpells
import Derived.Lib.Hide
import Derived.Laws.CopyOwn
import Derived.Deep.QuietTactic
import Derived.BigQuiet
import Derived.StillTailTactics
import Derived.Deep.RegionHeld3
import Derived.Deep.RegionWith
import Derived.Deep.DeepFit
import Derived.Deep.MidRow
import Derived.Laws.Tables
import Derived.Great.BuildSlice
import Derived.OrdersHeld
import Derived.StillTail
set_option maxHeartbeats 16000000
set_option maxRecDepth 1000000

namespace Go.Mv
open Go.RowKit
structure Fr (S : Nat → Prop) (w w' : World) : Prop where
 os : w'.os = w.os
 tape : w'.tape = w.tape
 output : w'.output = w.output
 size : w.heap.size ≤ w'.heap.size
 block : ∀ k, k < w.heap.size → ¬ S k → w'.heap[k]? = w.heap[k]?
def Nob : Nat → Prop := fun _ => False
def One (g : Nat) : Nat → Prop := fun k => k = g
theorem Fr.refl (S : Nat → Prop) (w : World) : Fr S w w := ⟨rfl, rfl, rfl, Nat.le_refl _, fun _ _ _ => rfl⟩
theorem Fr.trans {S T : Nat → Prop} {a b c : World} (h : Fr S a b) (k : Fr T b c) (hT : ∀ i, i < a.heap.size → T i → S i) : Fr S a c :=
 ⟨k.os.trans h.os, k.tape.trans h.tape, k.output.trans h.output, Nat.le_trans h.size k.size,
  fun i hi hs => (k.block i (Nat.lt_of_lt_of_le hi h.size) (fun t => hs (hT i hi t))).trans (h.block i hi hs)⟩
theorem Fr.mono {S T : Nat → Prop} {a b : World} (h : Fr S a b) (hT : ∀ i, i < a.heap.size → S i → T i) : Fr T a b :=
 ⟨h.os, h.tape, h.output, h.size, fun i hi hs => h.block i hi (fun t => hs (hT i hi t))⟩
theorem Fr.then {a b c : World} (h : Fr Nob a b) (k : Fr Nob b c) : Fr Nob a c := h.trans k (fun _ _ t => t)
theorem Fr.new {S : Nat → Prop} {g : Nat} {a b c : World} (h : Fr S a b) (k : Fr (One g) b c) (hg : a.heap.size ≤ g) : Fr S a c :=
 h.trans k (fun i hi t => by have : i = g := t; omega)
theorem Fr.same {S : Nat → Prop} {a b c : World} (h : Fr S a b) (k : Fr Nob b c) : Fr S a c := h.trans k (fun _ _ t => t.elim)
theorem Fr.drew {S : Nat → Prop} {a b : World} (h : Fr S a b) : Fr S a b.drew := ⟨h.os, h.tape, h.output, h.size, h.block⟩
theorem Fr.drewN {S : Nat → Prop} {a b : World} (h : Fr S a b) (n : Nat) : Fr S a (b.drewN n) := ⟨h.os, h.tape, h.output, h.size, h.block⟩
theorem Fr.alloc {S : Nat → Prop} {a b : World} (h : Fr S a b) (o : Obj) : Fr S a (b.alloc o) :=
 h.trans (T := Nob) ⟨rfl, rfl, rfl, by simp, fun k hk _ => Below.heap_alloc b o k hk⟩ (fun _ _ t => t.elim)
theorem Fr.setCell {S : Nat → Prop} {a b : World} (h : Fr S a b) (g i : Nat) (s : Option Nat) (u : Value) (hg : g < a.heap.size → S g) : Fr S a (b.setCell ⟨g, i, s⟩ u) :=
 h.trans (T := One g) ⟨rfl, rfl, rfl, by simp [World.setCell], fun k _ hk => heap_setCell_other b _ k u hk⟩ (fun i hi t => by have e : i = g := t; subst e; exact hg hi)
theorem Fr.below {a b : World} (h : Fr Nob a b) : Below a.heap.size a b := ⟨h.os, h.tape, h.output, h.size, fun k hk => h.block k hk id⟩
theorem Fr.ofBelow {a b : World} (h : Below a.heap.size a b) : Fr Nob a b := ⟨h.os, h.tape, h.output, h.size, fun k hk _ => h.block k hk⟩
theorem Fr.ofGrown {a b : World} {row : Option Nat} (h : a.grownBy b row) : Fr (fun k => row = some k) a b :=
 ⟨h.os, h.tape, h.output, h.size, fun k hk hs => h.block k hk (fun e => hs e.symm)⟩
theorem Fr.cell {S : Nat → Prop} {a b : World} (h : Fr S a b) {g i : Nat} {v : Value} (hs : ¬ S g) (hc : a.cell? ⟨g, i, none⟩ = some v) : b.cell? ⟨g, i, none⟩ = some v :=
 (World.cell?_of_block (a := ⟨g, i, none⟩) (h.block g (block_lt_of_cell hc) hs)).trans hc
def Has (w : World) (g : Nat) (L : List Value) (T : TypeId) : Prop := ∃ lo hi, w.heap[g]? = some (.cells L.toArray T (lo, hi)) ∧ (lo = hi ∨ L.length ≤ lo)
theorem Has.lt {w : World} {g : Nat} {L : List Value} {T : TypeId} (h : Has w g L T) : g < w.heap.size := by
 obtain ⟨lo, hi, h, -⟩ := h
 rcases Nat.lt_or_ge g w.heap.size with k | k
 ·exact k
 ·simp [Array.getElem?_eq_none k] at h
theorem Has.get {w : World} {g : Nat} {L : List Value} {T : TypeId} (h : Has w g L T) (i : Nat) : w.cell? ⟨g, i, none⟩ = L[i]? := by
 obtain ⟨lo, hi, h, -⟩ := h
 rw [cell_of_row w g i _ T _ h]; simp
theorem Has.cell {w : World} {g : Nat} {L : List Value} {T : TypeId} (h : Has w g L T) {i : Nat} {v : Value} (hv : L[i]? = some v) : w.cell? ⟨g, i, none⟩ = some v := (h.get i).trans hv
theorem Has.free {w : World} {g : Nat} {L : List Value} {T : TypeId} (h : Has w g L T) (i : Nat) (hi : i < L.length) : w.frozen? ⟨g, i, none⟩ = false := by
 obtain ⟨lo, hi', h, k⟩ := h
 simp only [World.frozen?, h]
 rcases k with rfl | k
 ·simp <;> omega
 ·simp <;> omega
theorem Has.ready {w : World} {g : Nat} {L : List Value} {T : TypeId} (h : Has w g L T) {i : Nat} (hi : i < L.length) : ∃ v, w.cell? ⟨g, i, none⟩ = some v ∧ w.frozen? ⟨g, i, none⟩ = false :=
 ⟨L[i], h.cell (List.getElem?_eq_getElem hi), h.free i hi⟩
theorem Has.keep {S : Nat → Prop} {w w' : World} {g : Nat} {L : List Value} {T : TypeId} (h : Has w g L T) (hf : Fr S w w') (hs : ¬ S g) : Has w' g L T := by
 have hl := h.lt
 obtain ⟨lo, hi, h, k⟩ := h
 exact ⟨lo, hi, (hf.block g hl hs).trans h, k⟩
theorem Has.set {w : World} {g : Nat} {L : List Value} {T : TypeId} (h : Has w g L T) (i : Nat) (v : Value) : Has (w.setCell ⟨g, i, none⟩ v) g (L.set i v) T := by
 have hl := h.lt
 obtain ⟨lo, hi, h, k⟩ := h
 refine ⟨lo, hi, ?_, by simpa using k⟩
 simp only [World.setCell, Array.getElem?_modify, if_true]
 simp [h]
theorem Has.other {w : World} {g g' : Nat} {L : List Value} {T : TypeId} (h : Has w g L T) (i : Nat) (s : Option Nat) (v : Value) (hn : g ≠ g') : Has (w.setCell ⟨g', i, s⟩ v) g L T := by
 obtain ⟨lo, hi, h, k⟩ := h
 exact ⟨lo, hi, (heap_setCell_other w ⟨g', i, s⟩ g v hn).trans h, k⟩
theorem Has.new (w : World) (L : Array Value) (T : TypeId) : Has (w.alloc (.cells L T)) w.heap.size L.toList T :=
 ⟨0, 0, by have := heap_alloc_new w (.cells L T); simpa using this, .inl rfl⟩
theorem Has.alloc {w : World} {g : Nat} {L : List Value} {T : TypeId} (h : Has w g L T) (o : Obj) : Has (w.alloc o) g L T := by
 have hl := h.lt
 obtain ⟨lo, hi, h, k⟩ := h
 exact ⟨lo, hi, (Below.heap_alloc w o g hl).trans h, k⟩
theorem Has.drew {w : World} {g : Nat} {L : List Value} {T : TypeId} (h : Has w g L T) : Has w.drew g L T := h
theorem Has.drewN {w : World} {g : Nat} {L : List Value} {T : TypeId} (h : Has w g L T) (n : Nat) : Has (w.drewN n) g L T := h
def At (w : World) (b o : Nat) (vs : List Value) : Prop := ∀ i v, vs[i]? = some v → w.cell? ⟨b, o + i, none⟩ = some v
def Rd (w : World) (a : Option Addr) (n : Nat) (vs : List Value) : Prop := vs.length = n ∧ (n = 0 ∨ ∃ b o, a = some ⟨b, o, none⟩ ∧ At w b o vs)
def Off (S : Nat → Prop) (a : Option Addr) : Prop := ∀ x, a = some x → ¬ S x.block
theorem Off.nob (a : Option Addr) : Off Nob a := fun _ _ h => h
theorem At.keep {S : Nat → Prop} {w w' : World} {b o : Nat} {vs : List Value} (h : At w b o vs) (hf : Fr S w w') (hs : ¬ S b) : At w' b o vs :=
 fun i v hv => hf.cell hs (h i v hv)
theorem Rd.keep {S : Nat → Prop} {w w' : World} {a : Option Addr} {n : Nat} {vs : List Value} (h : Rd w a n vs) (hf : Fr S w w') (hs : Off S a) : Rd w' a n vs := by
 refine ⟨h.1, h.2.imp id ?_⟩
 rintro ⟨b, o, rfl, ha⟩
 exact ⟨b, o, rfl, ha.keep hf (hs _ rfl)⟩
theorem Rd.still {w w' : World} {a : Option Addr} {n : Nat} {vs : List Value} (h : Rd w a n vs) (hf : Fr Nob w w') : Rd w' a n vs := h.keep hf (Off.nob a)
theorem Rd.nil (w : World) (a : Option Addr) : Rd w a 0 [] := ⟨rfl, .inl rfl⟩
theorem Rd.len {w : World} {a : Option Addr} {n : Nat} {vs : List Value} (h : Rd w a n vs) : vs.length = n := h.1
theorem _root_.ap1 {p : Prop} (h : p := by omega) : p := h
theorem Rd.at {w : World} {a : Option Addr} {n : Nat} {vs : List Value} (h : Rd w a n vs) (hn : 0 < n) : ∃ b o, a = some ⟨b, o, none⟩ ∧ At w b o vs := h.2.resolve_left ap1
theorem Rd.ofHas {w : World} {g n : Nat} {L : List Value} {T : TypeId} (h : Has w g L T) (o : Nat) (hn : o + n ≤ L.length) : Rd w (some ⟨g, o, none⟩) n ((L.drop o).take n) := by
 refine ⟨by simp; omega, .inr ⟨g, o, rfl, fun i v hv => ?_⟩⟩
 rw [h.get]
 rw [List.getElem?_take] at hv
 split at hv
 ·simpa using hv
 ·cases hv
theorem _root_.ap4 {p : Prop} (h : p := by simp) : p := h
theorem Rd.whole {w : World} {g : Nat} {L : List Value} {T : TypeId} (h : Has w g L T) : Rd w (some ⟨g, 0, none⟩) L.length L := by
 simpa using Rd.ofHas h 0 (n := L.length) ap4
theorem At.cell {w : World} {b o : Nat} {vs : List Value} (h : At w b o vs) {i : Nat} (hi : i < vs.length) : w.cell? ⟨b, o + i, none⟩ = some (vs.getD i undef) :=
 h i _ (by simp [List.getD_eq_getElem?_getD, List.getElem?_eq_getElem hi])
theorem At.sub {w : World} {b o : Nat} {vs : List Value} (h : At w b o vs) (k n : Nat) : At w b (o + k) ((vs.drop k).take n) := by
 intro i v hv
 rw [Nat.add_assoc]
 refine h (k + i) v ?_
 rw [List.getElem?_take] at hv
 split at hv
 ·simpa using hv
 ·cases hv
def bs (l : List UInt8) : List Value := l.map fun x => .int .u8 (x.toNat : Int)
theorem a0C (l : List UInt8) : (bs l).length = l.length := by simp [bs]
theorem e0g (l m : List UInt8) : bs (l ++ m) = bs l ++ bs m := by simp [bs]
theorem e0O (l : List UInt8) (n : Nat) : (bs l).take n = bs (l.take n) := by simp [bs]
theorem l0D (l : List UInt8) (n : Nat) : (bs l).drop n = bs (l.drop n) := by simp [bs]
theorem p0p (l : List UInt8) (i : Nat) (hi : i < l.length) : (bs l)[i]? = some (.int .u8 ((l.getD i 0).toNat : Int)) := by
 simp [bs, List.getElem?_eq_getElem hi, List.getD_eq_getElem?_getD]
theorem j0X (l : List UInt8) (i : Nat) (x : UInt8) : (bs l).set i (.int .u8 (x.toNat : Int)) = bs (l.set i x) := by simp [bs]
theorem m0M (l : List UInt8) : ∀ v ∈ bs l, v.oneCell' = true := by intro v hv; simp [bs] at hv; obtain ⟨x, _, rfl⟩ := hv; rfl
def RdB (w : World) (a : Option Addr) (n : Nat) (l : List UInt8) : Prop := Rd w a n (bs l)
theorem RdB.len {w : World} {a : Option Addr} {n : Nat} {l : List UInt8} (h : RdB w a n l) : l.length = n := by have := h.1; rwa [a0C] at this
theorem RdB.at {w : World} {a : Option Addr} {n : Nat} {l : List UInt8} (h : RdB w a n l) (hn : 0 < n) : ∃ b o, a = some ⟨b, o, none⟩ ∧ ∀ i, i < n → w.cell? ⟨b, o + i, none⟩ = some (.int .u8 ((l.getD i 0).toNat : Int)) := by
 obtain ⟨b, o, ha, hc⟩ := Rd.at h hn
 exact ⟨b, o, ha, fun i hi => hc i _ (p0p l i (by rw [h.len]; exact hi))⟩
theorem RdB.still {w w' : World} {a : Option Addr} {n : Nat} {l : List UInt8} (h : RdB w a n l) (hf : Fr Nob w w') : RdB w' a n l := Rd.still h hf
theorem RdB.keep {S : Nat → Prop} {w w' : World} {a : Option Addr} {n : Nat} {l : List UInt8} (h : RdB w a n l) (hf : Fr S w w') (hs : Off S a) : RdB w' a n l := Rd.keep h hf hs
theorem RdB.nil (w : World) (a : Option Addr) : RdB w a 0 [] := Rd.nil w a
def ws (l : List UInt64) : List Value := l.map fun x => .int .u64 (x.toNat : Int)
theorem a0W (l : List UInt64) : (ws l).length = l.length := by simp [ws]
theorem e0h (l : List UInt64) (i : Nat) (hi : i < l.length) : (ws l)[i]? = some (.int .u64 ((l.getD i 0).toNat : Int)) := by
 simp [ws, List.getElem?_eq_getElem hi, List.getD_eq_getElem?_getD]
theorem j0Y (l : List UInt64) (i : Nat) (x : UInt64) : (ws l).set i (.int .u64 (x.toNat : Int)) = ws (l.set i x) := by simp [ws]
def is (l : List Nat) : List Value := l.map fun (x : Nat) => .int .i64 (x : Int)
theorem d0f (l : List Nat) : (is l).length = l.length := by simp [is]
theorem x0J (l : List Nat) (i : Nat) (hi : i < l.length) : (is l)[i]? = some (.int .i64 ((l.getD i 0 : Nat) : Int)) := by
 simp [is, List.getElem?_eq_getElem hi, List.getD_eq_getElem?_getD]
theorem x0K (l : List Nat) (i : Nat) (x : Nat) : (is l).set i (.int .i64 (x : Int)) = is (l.set i x) := by simp [is]
end Go.Mv
namespace Go.Mv
open Go.RowKit
variable {P : Program}
theorem c0V (g o i : Nat) : (⟨g, o, none⟩ : Addr).add i = ⟨g, o + i, none⟩ := by unfold Addr.add; split <;> simp_all
theorem i0m (L : List Value) (o : Nat) : splice L o [] = L := by simp [splice]
theorem g0T (L : List Value) (o : Nat) (v : Value) (vs : List Value) (h : o < L.length) : splice (L.set o v) (o + 1) vs = splice L o (v :: vs) := by
 unfold splice
 have e1 : (L.set o v).take (o + 1) = L.take o ++ [v] := by
  rw [List.take_set, List.take_succ_eq_append_getElem h, List.set_append_right _ _ (by simp; omega), List.length_take, Nat.min_eq_left (Nat.le_of_lt h), Nat.sub_self]
  rfl
 have e2 : (L.set o v).drop (o + 1 + vs.length) = L.drop (o + 1 + vs.length) := by rw [List.drop_set, if_pos ap1]
 rw [e1, e2]
 simp [Nat.add_comm, Nat.add_left_comm]
theorem f0c {w : World} {g : Nat} {L : List Value} {T : TypeId} (h : Has w g L T) (i : Nat) (hi : i < L.length) (v : Value) (hv : v.oneCell' = true) :
  (store ⟨g, i, none⟩ v).run P w = .ok () (w.setCell ⟨g, i, none⟩ v) := by
 rw [run_store P w _ v _ hv, h.cell (List.getElem?_eq_getElem hi)]
 simp [h.free i hi]
theorem b0w (g o : Nat) (T : TypeId) : ∀ (vs : List Value) (i : Nat) (L : List Value) (w : World), Has w g L T → o + i + vs.length ≤ L.length → (∀ v ∈ vs, v.oneCell' = true) →
  ∃ w', (storeCells ⟨g, o, none⟩ vs i).run P w = .ok () w' ∧ Has w' g (splice L (o + i) vs) T ∧ Fr (One g) w w' ∧ w'.heap.size = w.heap.size
 | [], i, L, w, h, _, _ => ⟨w, rfl, by rw [i0m]; exact h, Fr.refl _ _, rfl⟩
 | v :: vs, i, L, w, h, hl, h1 => by
  have hi : o + i < L.length := by simp at hl; omega
  obtain ⟨w', hr, hh, hf, hz⟩ := b0w g o T vs (i + 1) (L.set (o + i) v) (w.setCell ⟨g, o + i, none⟩ v) (h.set _ _) (by simp at hl ⊢; omega) (fun x hx => h1 x (by simp [hx]))
  refine ⟨w', ?_, ?_, ?_, ?_⟩
  ·simp only [storeCells, Sem.run_bind, c0V, f0c h (o + i) hi v (h1 v ap4), Result.andThen_ok, hr]
  ·rw [← g0T L (o + i) v vs hi]; exact hh
  ·exact ((Fr.refl (One g) w).setCell g (o + i) none v (fun _ => rfl)).trans hf (fun _ _ t => t)
  ·rw [hz]; simp [World.setCell]
theorem At.add {w : World} {b o : Nat} {vs : List Value} (h : At w b o vs) : ∀ j u, vs[j]? = some u → w.cell? ((⟨b, o, none⟩ : Addr).add j) = some u := fun j u hu => by
 rw [c0V]; exact h j u hu
theorem f0O {w : World} {a : Option Addr} {vs : List Value} (size n m c : Nat) (h : At w (a.getD ⟨0, 0, none⟩).block (a.getD ⟨0, 0, none⟩).off (vs.take (n * size)) ∨ n * size = 0) (ha : 0 < n * size → ∃ b o, a = some ⟨b, o, none⟩) (hl : n * size ≤ vs.length) :
  (Builtin.firstCells size n (.slice a m c)).run P w = .ok (vs.take (n * size)).toArray w := by
 rcases Nat.eq_zero_or_pos (n * size) with h0 | h0
 ·rw [h0]
  cases a with
  | none => simp [Builtin.firstCells]
  | some ad => simp [Builtin.firstCells, h0, loadCells, loadCellsFrom]
 ·obtain ⟨b, o, rfl⟩ := ha h0
  have h := h.resolve_right ap1
  exact run_firstCells_some (P := P) w size n ⟨b, o, none⟩ m c (vs.take (n * size)) (by simp; omega) h.add
theorem d0y {w : World} {a : Option Addr} {k : Nat} {vs : List Value} (h : Rd w a k vs) (size n m c : Nat) (hl : n * size ≤ k) :
  (Builtin.firstCells size n (.slice a m c)).run P w = .ok (vs.take (n * size)).toArray w := by
 refine f0O size n m c ?_ ?_ (by rw [h.len]; exact hl)
 ·rcases Nat.eq_zero_or_pos (n * size) with h0 | h0
  ·exact .inr h0
  ·obtain ⟨b, o, rfl, hc⟩ := h.at ap1
   refine .inl fun i v hv => hc i v ?_
   rw [List.getElem?_take] at hv
   split at hv
   ·exact hv
   ·cases hv
 ·intro h0
  obtain ⟨b, o, rfl, _⟩ := h.at ap1
  exact ⟨b, o, rfl⟩
def Own (w : World) (base : Nat) (T : TypeId) (sz : Nat) (v : Value) (n : Nat) (L : List Value) : Prop :=
 L.length = n * sz ∧ ((v = .slice none 0 0 ∧ n = 0) ∨
  ∃ g o cap B, v = .slice (some ⟨g, o, none⟩) n cap ∧ base ≤ g ∧ Has w g B T ∧ n ≤ cap ∧ cap ≤ maxLen ∧ o + cap * sz ≤ B.length ∧ (B.drop o).take (n * sz) = L)
def b0g (v : Value) : Nat → Prop := fun k => v.ownBlock = some k
theorem Own.nil (w : World) (base : Nat) (T : TypeId) (sz : Nat) : Own w base T sz (.slice none 0 0) 0 [] := ⟨by simp, .inl ⟨rfl, rfl⟩⟩
theorem Own.lt {w : World} {base : Nat} {T : TypeId} {sz : Nat} {v : Value} {n : Nat} {L : List Value} (h : Own w base T sz v n L) {k : Nat} (hk : b0g v k) : base ≤ k ∧ k < w.heap.size := by
 rcases h.2 with ⟨rfl, _⟩ | ⟨g, o, cap, B, rfl, hb, hh, _⟩
 ·cases hk
 ·have : g = k := by simpa [b0g, Value.ownBlock] using hk
  subst this
  exact ⟨hb, hh.lt⟩
theorem Own.keep {S : Nat → Prop} {w w' : World} {base : Nat} {T : TypeId} {sz : Nat} {v : Value} {n : Nat} {L : List Value} (h : Own w base T sz v n L) (hf : Fr S w w') (hs : ∀ k, b0g v k → ¬ S k) : Own w' base T sz v n L := by
 refine ⟨h.1, h.2.imp id ?_⟩
 rintro ⟨g, o, cap, B, rfl, hb, hh, r⟩
 exact ⟨g, o, cap, B, rfl, hb, hh.keep hf (hs g rfl), r⟩
theorem Own.still {w w' : World} {base : Nat} {T : TypeId} {sz : Nat} {v : Value} {n : Nat} {L : List Value} (h : Own w base T sz v n L) (hf : Fr Nob w w') : Own w' base T sz v n L := h.keep hf (fun _ _ t => t)
theorem Own.mono {w : World} {base base' : Nat} {T : TypeId} {sz : Nat} {v : Value} {n : Nat} {L : List Value} (h : Own w base T sz v n L) (hb : base' ≤ base) : Own w base' T sz v n L := by
 refine ⟨h.1, h.2.imp id ?_⟩
 rintro ⟨g, o, cap, B, rfl, hb', r⟩
 exact ⟨g, o, cap, B, rfl, Nat.le_trans hb hb', r⟩
theorem Own.form {w : World} {base : Nat} {T : TypeId} {sz : Nat} {v : Value} {n : Nat} {L : List Value} (h : Own w base T sz v n L) : ∃ a cap, v = .slice a n cap ∧ n ≤ cap ∧ Rd w a (n * sz) L ∧ (∀ x, a = some x → base ≤ x.block) := by
 rcases h.2 with ⟨rfl, rfl⟩ | ⟨g, o, cap, B, rfl, hb, hh, hn, hm, hl, ht⟩
 ·refine ⟨none, 0, rfl, Nat.le_refl _, ⟨by simpa using h.1, .inl ap4⟩, by simp⟩
 ·have hle : n * sz ≤ cap * sz := Nat.mul_le_mul_right _ hn
  refine ⟨_, cap, rfl, hn, ?_, by simpa using hb⟩
  rw [← ht]
  exact Rd.ofHas hh o ap1
theorem Own.made {w : World} {g : Nat} {T : TypeId} {B : List Value} (h : Has w g B T) (base : Nat) (hb : base ≤ g) (sz n cap : Nat) (hn : n ≤ cap) (hm : cap ≤ maxLen) (hl : cap * sz ≤ B.length) :
  Own w base T sz (.slice (some ⟨g, 0, none⟩) n cap) n (B.take (n * sz)) := by
 have hle : n * sz ≤ cap * sz := Nat.mul_le_mul_right _ hn
 exact ⟨by simp; omega, .inr ⟨g, 0, cap, B, rfl, hb, h, hn, hm, by omega, by simp⟩⟩
theorem Own.fr {S : Nat → Prop} {w0 w w' : World} {base : Nat} {T : TypeId} {sz : Nat} {v : Value} {n : Nat} {L : List Value} (h : Own w base T sz v n L) (hf : Fr S w0 w) (hb : w0.heap.size ≤ base) (k : Fr (b0g v) w w') : Fr S w0 w' :=
 hf.trans k (fun _ hi t => by have := (h.lt t).1; omega)
theorem f0d (L : List Value) (o : Nat) (vs : List Value) (h : o + vs.length ≤ L.length) : (splice L o vs).length = L.length := length_splice L o vs h
theorem l0E (L : List Value) (o k : Nat) (vs : List Value) (h : o + k + vs.length ≤ L.length) : ((splice L (o + k) vs).drop o).take (k + vs.length) = (L.drop o).take k ++ vs := by
 unfold splice
 have h1 : (L.take (o + k)).drop o = (L.drop o).take k := by rw [List.drop_take]; congr 1; omega
 rw [List.drop_append_of_le_length (by simp; omega), h1]
 rw [← List.append_assoc]
 exact List.take_left' (by simp; omega)
theorem d0Y {w : World} (t ty e : TypeId) (i : TypeInfo) (ht : P.underlying t = some (.slice e)) (hi : P.info? e = some i)
  (g o sLen sCap : Nat) (B : List Value) (T : TypeId) (hg : Has w g B T) (a : Option Addr) (m c : Nat) (news : List Value) (hnews : Rd w a (m * i.size) news) (h1 : ∀ u ∈ news, u.oneCell' = true)
  (hroom : sLen + m ≤ sCap) (hfit : o + sLen * i.size + news.length ≤ B.length) :
  ∃ w', (Builtin.append_ #[t, t] ty #[.slice (some ⟨g, o, none⟩) sLen sCap, .slice a m c]).run P w = .ok (.slice (some ⟨g, o, none⟩) (sLen + m) sCap) w' ∧
   Has w' g (splice B (o + sLen * i.size) news) T ∧ Fr (One g) w w' ∧ w'.heap.size = w.heap.size := by
 have hf := d0y (P := P) hnews i.size m m c (Nat.le_refl _)
 rw [List.take_of_length_le (by rw [hnews.len]; exact Nat.le_refl _)] at hf
 obtain ⟨w', hst, hh, hfr, hz⟩ := b0w (P := P) g (o + sLen * i.size) T news 0 B w hg ap1 h1
 simp only [Nat.add_zero] at hh
 refine ⟨w', ?_, hh, hfr, hz⟩
 simp [Builtin.append_, run_underlying ht, sizeOf, typeInfo, hi, Builtin.lenOf, hroom, hf, c0V, hst]
theorem g0U {w : World} (t ty e : TypeId) (i : TypeInfo) (ht : P.underlying t = some (.slice e)) (hi : P.info? e = some i) (s : Option Addr) (sLen sCap : Nat) (hl : sLen ≤ sCap) (a : Option Addr) (c : Nat) :
  (Builtin.append_ #[t, t] ty #[.slice s sLen sCap, .slice a 0 c]).run P w = .ok (.slice s sLen sCap) w := by
 have hf : (Builtin.firstCells i.size 0 (.slice a 0 c)).run P w = .ok #[] w := by
  cases a <;> simp [Builtin.firstCells, loadCells, loadCellsFrom]
 cases s <;> simp [Builtin.append_, run_underlying ht, sizeOf, typeInfo, hi, Builtin.lenOf, hl, hf, storeCells]
theorem g0V {w : World} (base : Nat) (t ty e : TypeId) (z : Value) (sz by_ : Nat) (ht : P.underlying t = some (.slice e)) (hi0 : (P.info? e).map (fun i => (i.zero, i.size, i.bytes)) = some (some z, sz, by_))
  (hzs : z.cells.size = sz) (hsz : 0 < sz)
  (v : Value) (n : Nat) (L : List Value) (hown : Own w base e sz v n L)
  (a : Option Addr) (m c : Nat) (news : List Value) (hnews : Rd w a (m * sz) news) (h1 : ∀ u ∈ news, u.oneCell' = true)
  (h63 : n + m ≤ maxLen) (hbytes : (n + m) * by_ ≤ 140737488355328) (hbase : base ≤ w.heap.size) :
  ∃ v' w', (Builtin.append_ #[t, t] ty #[v, .slice a m c]).run P w = .ok v' w' ∧ Own w' base e sz v' (n + m) (L ++ news) ∧ Fr (b0g v) w w' ∧
   (v'.ownBlock = v.ownBlock ∨ v'.ownBlock = some w.heap.size) := by
 obtain ⟨i, hi, hz, hsize, hby⟩ := info_parts hi0
 subst hsize
 subst hby
 rcases Nat.eq_zero_or_pos m with rfl | hm
 ·obtain ⟨s, cap, rfl, hc, -, -⟩ := hown.form
  have hn : news = [] := List.eq_nil_of_length_eq_zero (by rw [hnews.len]; simp)
  subst hn
  exact ⟨_, w, g0U t ty e i ht hi s n cap hc a c, by simpa using hown, Fr.refl _ _, .inl rfl⟩
 have hms : 0 < m * i.size := Nat.mul_pos hm hsz
 obtain ⟨b, o', rfl, hat⟩ := hnews.at hms
 have hlen : (L ++ news).length = (n + m) * i.size := by rw [List.length_append, hown.1, hnews.len, Nat.add_mul]
 have hsmall : n + m ≤ 9223372036854775807 := by simp only [maxLen] at h63; omega
 have grown : ∀ (old : Nat), old < n + m →
   Own (w.drew.alloc (.cells (L.toArray ++ news.toArray ++ Builtin.zeroCells z.cells (grownCap w (n + m) old e - (n + m))) e)) base e i.size
    (.slice (some ⟨w.heap.size, 0, none⟩) (n + m) (grownCap w (n + m) old e)) (n + m) (L ++ news) ∧
   Fr (b0g v) w (w.drew.alloc (.cells (L.toArray ++ news.toArray ++ Builtin.zeroCells z.cells (grownCap w (n + m) old e - (n + m))) e)) := by
  intro old ho
  have hge := grownCap_ge w (n + m) old e
  have hcm : grownCap w (n + m) old e ≤ maxLen := grownCap_le_maxLen w (n + m) old e h63
  have hz' : (Builtin.zeroCells z.cells (grownCap w (n + m) old e - (n + m))).size = (grownCap w (n + m) old e - (n + m)) * i.size := by simp [size_zeroCells, hzs]
  have hmul : (n + m) * i.size + (grownCap w (n + m) old e - (n + m)) * i.size = grownCap w (n + m) old e * i.size := by rw [← Nat.add_mul]; congr 1; omega
  refine ⟨⟨hlen, .inr ⟨w.heap.size, 0, _, _, rfl, hbase, Has.new w.drew _ e, hge, hcm, ?_, ?_⟩⟩, ((Fr.refl _ w).drew).alloc _⟩
  ·rw [List.length_append] at hlen
   simp only [Array.toList_append, List.length_append, Array.length_toList, hz', Nat.zero_add]
   omega
  ·simp only [Array.toList_append, List.drop_zero]
   rw [← hlen]
   exact List.take_left
 rcases hown.2 with ⟨rfl, rfl⟩ | ⟨g, o, cap, B, rfl, hbg, hg, hnc, hcm, hl, htake⟩
 ·have hx : L = [] := List.eq_nil_of_length_eq_zero (by simpa using hown.1)
  subst hx
  have hr := run_append_nil (P := P) w t ty e i z ht hi hz ⟨b, o', none⟩ m c news hnews.len hat.add hm ap1 (by have hb := hbytes; simp only [Nat.zero_add] at hb; omega)
  have hgr := grown 0 ap1
  simp only [Nat.zero_add, List.nil_append, Array.empty_append] at hgr ⊢
  exact ⟨_, _, hr, hgr.1, hgr.2, .inr rfl⟩
 ·by_cases hroom : n + m ≤ cap
  ·have hle : (n + m) * i.size ≤ cap * i.size := Nat.mul_le_mul_right _ hroom
   have hnl := hnews.len
   have hfit : o + n * i.size + news.length ≤ B.length := by rw [Nat.add_mul] at hle; omega
   obtain ⟨w', hr, hh, hf, hzz⟩ := d0Y (P := P) t ty e i ht hi g o n cap B e hg _ m c news hnews h1 hroom hfit
   refine ⟨_, _, hr, ⟨hlen, .inr ⟨g, o, cap, _, rfl, hbg, hh, hroom, hcm, ?_, ?_⟩⟩, hf.mono (fun k _ t => by have e : k = g := t; subst e; rfl), .inl rfl⟩
   ·rw [f0d _ _ _ hfit]; exact hl
   ·have := l0E B o (n * i.size) news hfit
    rw [htake] at this
    rw [← this, hnl, Nat.add_mul]
  ·have hle : n * i.size ≤ cap * i.size := Nat.mul_le_mul_right _ hnc
   have hrd : Rd w (some ⟨g, o, none⟩) (n * i.size) L := by rw [← htake]; exact Rd.ofHas hg o ap1
   have holds : ∀ j u, L[j]? = some u → w.cell? ((⟨g, o, none⟩ : Addr).add j) = some u := by
    rcases Nat.eq_zero_or_pos (n * i.size) with h0 | h0
    ·have : L = [] := List.eq_nil_of_length_eq_zero (by rw [hown.1, h0])
     subst this; intro j u hu; simp at hu
    ·obtain ⟨b2, o2, he, hc2⟩ := hrd.at h0
     simp only [Option.some.injEq, Addr.mk.injEq] at he
     obtain ⟨rfl, rfl, -⟩ := he
     exact hc2.add
   have hr := run_append_grow (P := P) w t ty e i z ht hi hz ⟨g, o, none⟩ n cap L hown.1 holds ⟨b, o', none⟩ m c news hnews.len hat.add ap1 ap1 (growslice_fits ap1 hbytes)
   have hgr := grown cap ap1
   exact ⟨_, _, hr, hgr.1, hgr.2, .inr rfl⟩
theorem v0u (s : ByteArray) : bs s.data.toList = (s.data.map fun b => Value.int .u8 b.toNat).toList := by simp [bs]
theorem x0L (s : ByteArray) : (s.data.map fun b => Value.int .u8 b.toNat) = (bs s.data.toList).toArray := by apply Array.ext'; simp [bs]
theorem u0t (s : ByteArray) : (bs s.data.toList).length = s.size := by simp [bs]
section
variable {w : World} {ops : Array Oper} {rest : List Oper} {o : Oper} {a : Act} {Q : Exit → Act → World → Prop}
theorem c0p {s x : Operand} {t : TypeId} (hgd : o.guard = none) (ho : o.op = .call { callee := .builtin .append, args := #[s, x], argTypes := #[t, t] })
  {e : TypeId} {z : Value} {sz by_ : Nat} (ht : P.underlying t = some (.slice e)) (hi0 : (P.info? e).map (fun i => (i.zero, i.size, i.bytes)) = some (some z, sz, by_))
  (hzs : z.cells.size = sz) (hsz : 0 < sz)
  {v : Value} {n base : Nat} {L : List Value} (hown : Own w base e sz v n L) (hs : a.eval s = v)
  {xa : Option Addr} {m c : Nat} {news : List Value} (hx : a.eval x = .slice xa m c) (hnews : Rd w xa (m * sz) news) (h1 : ∀ u ∈ news, u.oneCell' = true)
  (h63 : n + m ≤ maxLen) (hbytes : (n + m) * by_ ≤ 140737488355328) (hbase : base ≤ w.heap.size)
  (h : ∀ v' w', Own w' base e sz v' (n + m) (L ++ news) → Fr (b0g v) w w' → (v'.ownBlock = v.ownBlock ∨ v'.ownBlock = some w.heap.size) → wpList P ops Q rest (a.put o.dst v') w') : wpList P ops Q (o :: rest) a w := by
 refine wpList_plain hgd fun K hK => ?_
 obtain ⟨v', w', hr, h2, h3, h4⟩ := g0V (P := P) base t o.type e z sz by_ ht hi0 hzs hsz v n L hown xa m c news hnews h1 h63 hbytes hbase
 unfold Oper.wp execOp
 simp only [ho, resolve, invoke, builtin, Sem.run_bind, Sem.run_pure, Result.andThen_ok, List.map_toArray, List.map_cons, List.map_nil, hs, hx, hr]
 exact hK _ _ (h v' w' h2 h3 h4)
theorem i0U (z : Value) (hz : z.cells = #[z]) (n : Nat) : (madeCells z.cells n).toList = List.replicate n z := by rw [hz]; exact toList_madeCells_one z n
theorem g0W {l c : Operand} {t : TypeId} (hgd : o.guard = none) (ho : o.op = .makeSlice t l c) {e : TypeId} {z : Value} {by_ : Nat} (ht : P.underlying t = some (.slice e))
  (hi0 : (P.info? e).map (fun i => (i.zero, i.size, i.bytes)) = some (some z, 1, by_)) (hzc : z.cells = #[z]) {kl kc : IntKind} {x y : Int} (hl : a.eval l = .int kl x) (hc : a.eval c = .int kc y) (n m : Nat) (hx : x = n) (hy : y = m) (hnm : n ≤ m)
  (hb : by_ * m ≤ 281474976710656) (h63 : m ≤ maxLen)
  (h : ∀ w', Has w' w.heap.size (List.replicate m z) e → Fr Nob w w' → w'.heap.size = w.heap.size + 1 → wpList P ops Q rest (a.put o.dst (.slice (some ⟨w.heap.size, 0, none⟩) n m)) w') : wpList P ops Q (o :: rest) a w := by
 refine wpList_plain hgd fun K hK => ?_
 obtain ⟨i, hi, hz, hsize, hby⟩ := info_parts hi0
 subst hx
 subst hy
 have hmx : (m : Int) ≤ 9223372036854775807 := by simp only [maxLen] at h63; omega
 have hbb : (i.bytes : Int) * (m : Int) ≤ 281474976710656 := by
  have k : ((i.bytes * m : Nat) : Int) ≤ 281474976710656 := by rw [hby]; omega
  rwa [Int.natCast_mul] at k
 have hr := run_make (P := P) w t e i z ht hi hz kl kc n m ap1 ap1 hbb hmx
 simp only [Int.toNat_natCast, hsize, Nat.mul_one] at hr
 unfold Oper.wp execOp
 simp only [ho, hl, hc, Sem.run_bind, Sem.run_pure, Result.andThen_ok, hr]
 refine hK _ _ (h _ ?_ ((Fr.refl _ w).alloc _) ap4)
 have := Has.new w (madeCells z.cells m) e
 rwa [i0U z hzc] at this
theorem p0q {d s : Operand} {t u : TypeId} (hgd : o.guard = none) (ho : o.op = .call { callee := .builtin .copy, args := #[d, s], argTypes := #[t, u] }) {e : TypeId} (ht : P.underlying t = some (.slice e)) (hsz : (P.info? e).map (·.size) = some 1)
  {g off dn dc : Nat} (hd : a.eval d = .slice (some ⟨g, off, none⟩) dn dc) {sa : Option Addr} {m c : Nat} (hs : a.eval s = .slice sa m c) {B vs : List Value} {T : TypeId} (hg : Has w g B T) (hrd : Rd w sa m vs) (h1 : ∀ v ∈ vs, v.oneCell' = true)
  (hfit : off + min m dn ≤ B.length)
  (h : ∀ w', Has w' g (splice B off (vs.take (min m dn))) T → Fr (One g) w w' → w'.heap.size = w.heap.size → wpList P ops Q rest (a.put o.dst (.int .i64 (min m dn : Nat))) w') : wpList P ops Q (o :: rest) a w := by
 refine wpList_plain hgd fun K hK => ?_
 obtain ⟨i, hi, hi1⟩ : ∃ i, P.info? e = some i ∧ i.size = 1 := by simpa using hsz
 have hfc := d0y (P := P) hrd 1 (min m dn) m c ap1
 rw [Nat.mul_one] at hfc
 have hlen : (vs.take (min m dn)).length = min m dn := by rw [List.length_take, hrd.len]; omega
 obtain ⟨w', hst, hh, hf, hz⟩ := b0w (P := P) g off T (vs.take (min m dn)) 0 B w hg (by rw [hlen]; omega) (fun v hv => h1 v (List.mem_of_mem_take hv))
 simp only [Nat.add_zero] at hh
 have hr : (Builtin.copy_ #[t, u] o.type #[.slice (some ⟨g, off, none⟩) dn dc, .slice sa m c]).run P w = .ok (.int .i64 (min m dn : Nat)) w' := by
  simp [Builtin.copy_, run_underlying ht, sizeOf, typeInfo, hi, hi1, Builtin.lenOf, hfc, hst, goInt]
 unfold Oper.wp execOp
 simp only [ho, resolve, invoke, builtin, Sem.run_bind, Sem.run_pure, Result.andThen_ok, List.map_toArray, List.map_cons, List.map_nil, hd, hs, hr]
 exact hK _ _ (h w' hh hf hz)
def mkS (l : List UInt8) : ByteArray := ⟨l.toArray⟩
theorem m0N (s : ByteArray) : mkS s.data.toList = s := by simp [mkS]
theorem m0O (l : List UInt8) : (mkS l).size = l.length := by simp [mkS, ByteArray.size]
theorem i0n (l : List UInt8) : (mkS l).data.toList = l := by simp [mkS]
theorem e0v {x : Operand} {src dst : TypeId} (hgd : o.guard = none) (ho : o.op = .convert src dst x) {e : TypeId} (hs : P.underlying src = some .string) (hd : P.underlying dst = some (.slice e)) (he : P.underlying e = some (.int .u8))
  {q : ByteArray} (hx : a.eval x = .string q) (hq : q.size ≤ maxLen) (base : Nat) (hb : base ≤ w.heap.size)
  (h : ∀ cap w', Own w' base e 1 (.slice (some ⟨w.heap.size, 0, none⟩) q.size cap) q.size (bs q.data.toList) → Fr Nob w w' → w.heap.size < w'.heap.size → wpList P ops Q rest (a.put o.dst (.slice (some ⟨w.heap.size, 0, none⟩) q.size cap)) w') : wpList P ops Q (o :: rest) a w := by
 refine wpList_plain hgd fun K hK => ?_
 have hr := run_bytes_of_string (P := P) w src dst e q hs hd he
 have hge := grownCap_ge w q.size 0 e
 have hcm := grownCap_le_maxLen w q.size 0 e hq
 unfold Oper.wp execOp
 simp only [ho, hx, Sem.run_bind, Sem.run_pure, Result.andThen_ok, hr]
 refine hK _ _ (h _ _ ⟨by rw [u0t]; omega, .inr ⟨w.heap.size, 0, _, (bytesRow q (grownCap w q.size 0 e)).toList, rfl, hb, ?_, hge, hcm, ?_, ?_⟩⟩ (((Fr.refl _ w).drew).alloc _) ap4)
 ·refine ⟨(bytesRow q (grownCap w q.size 0 e)).size, (bytesRow q (grownCap w q.size 0 e)).size + 1, ?_, .inr (Nat.le_of_eq ?_)⟩
  ·have := heap_alloc_new w.drew (.cells (bytesRow q (grownCap w q.size 0 e)) e ((bytesRow q (grownCap w q.size 0 e)).size, (bytesRow q (grownCap w q.size 0 e)).size + 1))
   simpa using this
  ·simp
 ·have hd : q.data.size = q.size := rfl
  simp [bytesRow, hd]; omega
 ·simp only [bytesRow, Array.toList_append, List.drop_zero, Nat.mul_one]
  rw [← v0u]
  exact List.take_left' (by rw [u0t])
end
def z0W (p : Prop) : Prop := p
theorem e0P {w : World} {ops : Array Oper} {rest : List Oper} {o : Oper} {a : Act} {Q : Exit → Act → World → Prop} (h : z0W (wpList P ops Q (o :: rest) a w)) : wpList P ops Q (o :: rest) a w := h
theorem _root_.qH {p : Prop} (h : p) : Hid p := h
theorem wSk (k : Nat) {P : Program} {w : World} {ops : Array Oper} {rest : List Oper} {p1 : Op} {p2 : TypeId} {p3 : String} {p4 : Array Edge} {p5 : Option (Nat × Bool)} {a : Act} {Q : Exit → Act → World → Prop} (h : z0W (wpList P ops Q (⟨some k, p1, p2, p3, p4, p5⟩ :: rest) a w)) : wpList P ops Q (⟨some k, p1, p2, p3, p4, p5⟩ :: rest) a w := h
theorem wSn {P : Program} {w : World} {ops : Array Oper} {rest : List Oper} {p1 : Op} {p2 : TypeId} {p3 : String} {p4 : Array Edge} {p5 : Option (Nat × Bool)} {a : Act} {Q : Exit → Act → World → Prop} (h : z0W (wpList P ops Q (⟨none, p1, p2, p3, p4, p5⟩ :: rest) a w)) : wpList P ops Q (⟨none, p1, p2, p3, p4, p5⟩ :: rest) a w := h
theorem dZl {α : Type} {l : List α} : List.take l.length (List.drop 0 l) = l := by rw [List.drop_zero, List.take_of_length_le (Nat.le_refl _)]
theorem _root_.apW {P : Program} {o : Oper} {a : Act} {v : Value} (h : ∀ wx, (execOp a.eval o).run P wx = .ok (.value v) wx := by intro wx; go_simp; with_reducible rfl) : ∀ wx, (execOp a.eval o).run P wx = .ok (.value v) wx := h
theorem _root_.apX {P : Program} {o : Oper} {A : (Nat → Value) → Act} {v : Value} (h : ∀ x wx, (execOp (A x).eval o).run P wx = .ok (.value v) wx := by intro xq wx; go_simp; with_reducible rfl) : ∀ x wx, (execOp (A x).eval o).run P wx = .ok (.value v) wx := h
abbrev _root_.zAc : Go.Value := .agg #[.int .u64 0, .int .u64 0, .int .u64 0, .int .u64 0, .int .u64 0, .int .u64 0, .int .u64 0, .int .u64 0, .int .u64 0, .int .u64 0, .int .u64 0, .int .u64 0]
abbrev _root_.zAd : Go.Value := .agg #[.int .u64 0, .int .u64 0, .int .u64 0, .int .u64 0]
end Go.Mv
namespace Go.Mv
open Go.RowKit
variable {P : Program}
def Kept (v : Value) (n sz : Nat) (w w' : World) : Prop :=
 ∀ b i, b < w.heap.size → (∀ o cap, v = .slice (some ⟨b, o, none⟩) n cap → i < o + n * sz) → w'.cell? ⟨b, i, none⟩ = w.cell? ⟨b, i, none⟩
theorem Kept.refl (v : Value) (n sz : Nat) (w : World) : Kept v n sz w w := fun _ _ _ _ => rfl
section
variable {w : World} {ops : Array Oper} {rest : List Oper} {o : Oper} {a : Act} {Q : Exit → Act → World → Prop}
end
end Go.Mv
namespace Go.Mv
open Go.RowKit
section
variable {P : Program} {w : World} {ops : Array Oper} {o : Oper} {a : Act} {K : Act → World → Prop} {Q : Exit → Act → World → Prop} {E : Prop}
end
end Go.Mv
namespace Mvp
def fill {α : Type} (F I : List α) (k : Nat) : List α := F.take k ++ I.drop k
theorem g0X {α : Type} (F I : List α) (k : Nat) (h : F.length = I.length) : (fill F I k).length = I.length := by simp [fill]; omega
theorem p0r {α : Type} (F I : List α) : fill F I 0 = I := by simp [fill]
theorem m0P {α : Type} (F I : List α) (k : Nat) (h : F.length = I.length) (hk : F.length ≤ k) : fill F I k = F := by
 unfold fill
 rw [List.take_of_length_le hk, List.drop_eq_nil_of_le ap1, List.append_nil]
theorem m0Q {α : Type} (F I : List α) (k : Nat) (h : F.length = I.length) (hk : k < F.length) (d : α) : (fill F I k).set k (F.getD k d) = fill F I (k + 1) := by
 unfold fill
 have e : F.getD k d = F[k] := by simp [List.getD_eq_getElem?_getD, hk]
 rw [e, List.set_append_right _ _ (by simp; omega), List.length_take, Nat.min_eq_left (Nat.le_of_lt hk), Nat.sub_self, List.drop_eq_getElem_cons ap1, List.set_cons_zero, List.take_succ_eq_append_getElem hk]
 simp only [List.append_assoc, List.singleton_append]
def shl (x : UInt64) (k : Nat) : UInt64 := UInt64.ofNat (x.toNat * 2 ^ k)
def shr (x : UInt64) (k : Nat) : UInt64 := UInt64.ofNat (x.toNat / 2 ^ k)
def wx (x y : UInt64) : UInt64 := x ^^^ y
def wo (x y : UInt64) : UInt64 := x ||| y
def wa (x y : UInt64) : UInt64 := x &&& y
def wn (x : UInt64) : UInt64 := ~~~x
def wid (x : UInt8) : UInt64 := x.toUInt64
def lo8 (x : UInt64) : UInt8 := x.toUInt8
def bx (x y : UInt8) : UInt8 := x ^^^ y
def bo (x y : UInt8) : UInt8 := x ||| y
def ba (x y : UInt8) : UInt8 := x &&& y
def u0u (x : UInt64) (n : Nat) : UInt64 := shl x n ||| shr x (64 - n)
end Mvp
namespace Go.Mv
open Go.RowKit Mvp
theorem f0e (x : UInt64) : x.toNat < 18446744073709551616 := x.toNat_lt
theorem j0Z (x : UInt64) (k : Nat) : (shr x k).toNat = x.toNat / 2 ^ k := by
 have := f0e x
 have h := Nat.div_le_self x.toNat (2 ^ k)
 simp only [shr, UInt64.toNat_ofNat']
 exact Nat.mod_eq_of_lt (Nat.lt_of_le_of_lt h this)
theorem k0a (x : UInt64) (k : Nat) : (shl x k).toNat = x.toNat * 2 ^ k % 18446744073709551616 := by simp [shl]
theorem l0F (x : UInt64) (yk : IntKind) (k : Nat) : Op.shift .shl .u64 (x.toNat : Int) yk (k : Int) = pure (.int .u64 ((shl x k).toNat : Int)) := by
 rw [shift_shl_any _ _ _ _ ap1, k0a]
 congr 2
 rw [IntKind.wrap_u64]
 simp only [Int.toNat_natCast, IntKind.bits]
 rcases Nat.lt_or_ge k 64 with h | h
 ·rw [Nat.min_eq_left ap1]
  simp
 ·rw [Nat.min_eq_right ap1]
  obtain ⟨j, rfl⟩ : ∃ j, k = 64 + j := ⟨k - 64, by omega⟩
  have e : x.toNat * 2 ^ (64 + j) = x.toNat * 2 ^ j * 18446744073709551616 := by
   have e64 : (2 : Nat) ^ 64 = 18446744073709551616 := by decide
   rw [Nat.pow_add, e64]; ac_rfl
  rw [e, Nat.mul_mod_left]
  have e2 : (2 : Int) ^ 64 = 18446744073709551616 := by decide
  rw [e2]
  omega
theorem p0s (x : UInt64) (yk : IntKind) (k : Nat) : Op.shift .shr .u64 (x.toNat : Int) yk (k : Int) = pure (.int .u64 ((shr x k).toNat : Int)) := by
 rw [shift_shr_any _ _ _ _ ap1, j0Z]
 congr 2
 simp only [Int.toNat_natCast, IntKind.bits]
 rcases Nat.lt_or_ge k 64 with h | h
 ·rw [Nat.min_eq_left ap1]
  simp
 ·rw [Nat.min_eq_right ap1]
  have hx := f0e x
  have e2 : (2 : Int) ^ 64 = 18446744073709551616 := by decide
  have h3 : x.toNat / 2 ^ k = 0 := Nat.div_eq_of_lt (Nat.lt_of_lt_of_le hx (by have := Nat.pow_le_pow_right (show 0 < 2 by omega) h; simpa using this))
  rw [e2, h3]
  omega
theorem v0v (x : UInt64) (yk : IntKind) (n : Nat) : Op.shift .shl .u64 (x.toNat : Int) yk (no_index (OfNat.ofNat n)) = pure (.int .u64 ((shl x n).toNat : Int)) := l0F x yk n
theorem v0w (x : UInt64) (yk : IntKind) (n : Nat) : Op.shift .shr .u64 (x.toNat : Int) yk (no_index (OfNat.ofNat n)) = pure (.int .u64 ((shr x n).toNat : Int)) := p0s x yk n
theorem l0G (x y : UInt64) : bits .xor .u64 (x.toNat : Int) (y.toNat : Int) = ((wx x y).toNat : Int) := by
 have := bits_xor_u64_nat x.toNat y.toNat (f0e x) (f0e y)
 rw [this]; simp [wx]
theorem u0v (x y : UInt64) : bits .or .u64 (x.toNat : Int) (y.toNat : Int) = ((wo x y).toNat : Int) := by
 have := bits_or_u64_nat x.toNat y.toNat (f0e x) (f0e y)
 rw [this]; simp [wo]
theorem v0x (x y : UInt64) : bits .and .u64 (x.toNat : Int) (y.toNat : Int) = ((wa x y).toNat : Int) := by
 have := bits_and_u64_nat x.toNat y.toNat (f0e x) (f0e y)
 rw [this]; simp [wa]
theorem p0t (x : UInt64) : bits .xor .u64 18446744073709551615 (x.toNat : Int) = ((wn x).toNat : Int) := by
 have e : (18446744073709551615 : Int) = (((18446744073709551615 : UInt64).toNat : Nat) : Int) := by decide
 have e1 : (18446744073709551615 : UInt64) = -1 := by decide
 rw [e, l0G, e1, wx, UInt64.neg_one_xor, wn]
theorem s0l (x : UInt64) : bits .xor .u64 (if IntKind.u64.signed = true then -1 else IntKind.u64.max) (x.toNat : Int) = ((wn x).toNat : Int) := p0t x
theorem p0u (k : Nat) : bits .and .u64 (k : Int) 63 = ((k % 64 : Nat) : Int) := by
 have h1 : BitVec.ofInt 64 (k : Int) = BitVec.ofNat 64 k := by simp
 have h2 : (BitVec.ofNat 64 k &&& BitVec.ofInt 64 63).toNat = k % 64 := by
  have e : (BitVec.ofInt 64 63).toNat = 2 ^ 6 - 1 := by decide
  rw [BitVec.toNat_and, e, Nat.and_two_pow_sub_one_eq_mod, BitVec.toNat_ofNat]
  omega
 show IntKind.u64.wrap (((BitVec.ofInt 64 (k : Int) &&& BitVec.ofInt 64 63).toNat : Nat) : Int) = _
 rw [h1, h2, IntKind.wrap_u64]
 omega
theorem p0v (x : UInt8) : IntKind.u64.wrap (x.toNat : Int) = ((wid x).toNat : Int) := by
 have := x.toNat_lt
 rw [IntKind.wrap_u64]; simp [wid]; omega
theorem o0b (x : UInt64) : IntKind.u8.wrap (x.toNat : Int) = ((lo8 x).toNat : Int) := by
 rw [IntKind.wrap_u8']; simp [lo8]
theorem m0R (x y : UInt8) : bits .xor .u8 (x.toNat : Int) (y.toNat : Int) = ((bx x y).toNat : Int) := by
 rw [u8_xor_nat _ _ x.toNat_lt y.toNat_lt]; simp [bx]
theorem s0m (x y : UInt8) : bits .and .u8 (x.toNat : Int) (y.toNat : Int) = ((ba x y).toNat : Int) := by
 rw [u8_and_nat _ _ x.toNat_lt y.toNat_lt]; simp [ba]
theorem v0y (x y : UInt8) : bits .or .u8 (x.toNat : Int) (y.toNat : Int) = ((bo x y).toNat : Int) := by
 rw [u8_or_nat _ _ x.toNat_lt y.toNat_lt]; simp [bo]
theorem k0b (k : Nat) : BitVec.ofInt 64 (k : Int) = BitVec.ofNat 64 k := by simp
theorem i0c (n : Nat) (h : n < 9223372036854775808) : IntKind.i64.wrap (n : Int) = (n : Int) := by rw [IntKind.wrap_i64]; omega
theorem v0z (a b : Nat) (ha : a < 9223372036854775808) (hb : b < 9223372036854775808) : bits .and .i64 (a : Int) (b : Int) = ((a &&& b : Nat) : Int) := by
 show IntKind.i64.wrap (((BitVec.ofInt 64 (a : Int) &&& BitVec.ofInt 64 (b : Int)).toNat : Nat) : Int) = _
 rw [k0b, k0b, BitVec.toNat_and, BitVec.toNat_ofNat, BitVec.toNat_ofNat, Nat.mod_eq_of_lt ap1, Nat.mod_eq_of_lt ap1]
 exact i0c _ (Nat.lt_of_le_of_lt Nat.and_le_left ha)
theorem g0Y (y : UInt8) : (wid y).toNat = y.toNat := by simp [wid]
theorem x0M (x : UInt64) (y : UInt8) : bits .or .u64 (x.toNat : Int) (y.toNat : Int) = ((wo x (wid y)).toNat : Int) := by rw [← u0v, g0Y]
theorem v0A (x : UInt64) (y : UInt8) : bits .xor .u64 (x.toNat : Int) (y.toNat : Int) = ((wx x (wid y)).toNat : Int) := by rw [← l0G, g0Y]
theorem v0B (x : UInt8) (yk : IntKind) (k : Nat) : Op.shift .shl .u64 (x.toNat : Int) yk (k : Int) = pure (.int .u64 ((shl (wid x) k).toNat : Int)) := by rw [← l0F, g0Y]
theorem s0n (x : UInt64) (k : Nat) : IntKind.u64.wrap ((x.toNat : Int) * 2 ^ k) = ((shl x k).toNat : Int) := by
 rw [IntKind.wrap_u64, k0a]; simp
theorem v0C (x : UInt64) (k : Nat) : (x.toNat : Int) / 2 ^ k = ((shr x k).toNat : Int) := by
 rw [j0Z]; simp
attribute [go_sem high] s0n v0C x0M v0A v0B v0v v0w l0F p0s l0G u0v v0x p0t s0l p0u p0v o0b m0R s0m v0y
section
variable {P : Program} {w : World} {ops : Array Oper} {rest : List Oper} {o : Oper} {a : Act} {Q : Exit → Act → World → Prop}
theorem k0c {x i : Operand} {t : TypeId} (hgd : o.guard = none) (ho : o.op = .index t x i) (ht : P.underlying t = some .string) {s : ByteArray} {ki : IntKind} {j : Int} (hx : a.eval x = .string s) (hi : a.eval i = .int ki j)
  (k : Nat) (hj : j = k) (hk : k < s.size) (y : UInt8) (hy : s.data.toList.getD k 0 = y) (h : wpList P ops Q rest (a.put o.dst (.int .u8 (y.toNat : Int))) w) : wpList P ops Q (o :: rest) a w := by
 refine wpList_plain hgd fun K hK => ?_
 subst hj
 have he : s[k]? = some y := by
  have h1 : s[k]? = some s[k] := getElem?_pos s k hk
  rw [h1]
  congr 1
  rw [← hy, List.getD_eq_getElem?_getD, List.getElem?_eq_getElem (by simpa using hk)]
  simp
  rfl
 have hr : (Instr.index t (.string s) (.int ki (k : Int))).run P w = .ok (.int .u8 (y.toNat : Int)) w := by
  simp [Instr.index, asIntOf, run_underlying ht, he]
 unfold Oper.wp execOp
 simp only [ho, hx, hi, Sem.run_bind, Sem.run_pure, Result.andThen_ok, hr]
 exact hK _ _ h
end
theorem o0c {P : Program} {f : FuncId} {args : Array Value} {w : World} {a n : Nat} {v : Value}
  (h : Calls P f args (w.drewN (a + n)) fun e w' => e = .returned v ∧ w' = w.drewN (a + n)) :
  Calls P f args (w.drewN (a + n)) fun e w'' => e = .returned v ∧ ∃ m, w'' = w.drewN (a + m) :=
 h.mono fun _ _ h => ⟨h.1, n, h.2⟩
end Go.Mv
namespace Go.Mv
open Go.RowKit
variable {P : Program}
theorem Has.setCells {g : Nat} {T : TypeId} : ∀ (cs : List Value) (o : Nat) (L : List Value) (w : World), Has w g L T → o + cs.length ≤ L.length → Has (w.setCells g o cs) g (splice L o cs) T ∧ Fr (One g) w (w.setCells g o cs) ∧ (w.setCells g o cs).heap.size = w.heap.size
 | [], o, L, w, h, _ => ⟨by rw [i0m]; exact h, Fr.refl _ _, rfl⟩
 | v :: cs, o, L, w, h, hl => by
  simp only [List.length_cons] at hl
  obtain ⟨h1, h2, h3⟩ := Has.setCells cs (o + 1) (L.set o v) (w.setCell ⟨g, o, none⟩ v) (h.set o v) (by simp; omega)
  rw [g0T L o v cs ap1] at h1
  refine ⟨h1, ((Fr.refl (One g) w).setCell g o none v (fun _ => rfl)).trans h2 (fun _ _ t => t), ?_⟩
  show ((w.setCell ⟨g, o, none⟩ v).setCells g (o + 1) cs).heap.size = _
  rw [h3]; simp [World.setCell]
theorem Has.range {w : World} {g : Nat} {L : List Value} {T : TypeId} (h : Has w g L T) (o : Nat) (cs : List Value) (hcs : (L.drop o).take cs.length = cs) : w.rangeAt g o cs := by
 intro j v hv
 rw [h.get]
 have : j < cs.length := by
  rcases Nat.lt_or_ge j cs.length with k | k
  ·exact k
  ·simp [List.getElem?_eq_none k] at hv
 rw [← hcs, List.getElem?_take, if_pos this, List.getElem?_drop] at hv
 exact hv
theorem Has.there {w : World} {g : Nat} {L : List Value} {T : TypeId} (h : Has w g L T) (o n : Nat) (hn : o + n ≤ L.length) : w.there g o n := by
 intro j hj
 obtain ⟨v, h1, h2⟩ := h.ready (i := o + j) ap1
 exact ⟨by rw [h1]; rfl, h2⟩
section
variable {w : World} {ops : Array Oper} {rest : List Oper} {o : Oper} {a : Act} {Q : Exit → Act → World → Prop}
theorem c0H {ty : TypeId} {x : Operand} (hgd : o.guard = none) (ho : o.op = .load ty x) {n : Nat} {e : TypeId} (hu : P.underlying ty = some (.array n e)) {g p : Nat} (hx : a.eval x = .pointer (some ⟨g, p, none⟩))
  {L : List Value} {T : TypeId} (hg : Has w g L T) (cs : List Value) (hcs : (L.drop p).take cs.length = cs) (hi : (P.info? ty).map (·.size) = some cs.length)
  (h : wpList P ops Q rest (a.put o.dst (.agg cs.toArray)) w) : wpList P ops Q (o :: rest) a w :=
 wpList_load_mid hgd ty x ho g p hx cs _ (hg.range p cs hcs) hu rfl hi h
theorem d0z {ty : TypeId} {x y : Operand} (hgd : o.guard = none) (ho : o.op = .store ty x y) {g p : Nat} (hx : a.eval x = .pointer (some ⟨g, p, none⟩)) {cs : List Value} (hy : a.eval y = .agg cs.toArray)
  {L : List Value} {T : TypeId} (hg : Has w g L T) (hn : p + cs.length ≤ L.length) (hi : (P.info? ty).map (·.size) = some cs.length) (h1 : ∀ v ∈ cs, v.oneCell' = true)
  (h : ∀ w', Has w' g (splice L p cs) T → Fr (One g) w w' → w'.heap.size = w.heap.size → wpList P ops Q rest (a.put o.dst undef) w') : wpList P ops Q (o :: rest) a w := by
 obtain ⟨k1, k2, k3⟩ := Has.setCells cs p L w hg hn
 exact wpList_store_mid hgd ty x y ho g p cs.toArray hx hy (by simpa using hg.there p cs.length hn) (by simpa using hi) (all_oneCell_toArray h1) (by simpa using h _ k1 k2 k3)
end
theorem b0L (L cs : List Value) (h : cs.length = L.length) : splice L 0 cs = cs := by
 simp [splice, h]
theorem a0B {fn : Func} {p : Tmp} {ty : TypeId} (h : fn.results = #[.cell p ty]) {tmps : Array Value} {w : World} {g : Nat} {L : List Value} {T : TypeId}
  (hp : tmps.getD p undef = .pointer (some ⟨g, 0, none⟩)) (hg : Has w g L T) {n : Nat} {e : TypeId} (hu : P.underlying ty = some (.array n e)) (hi : (P.info? ty).map (·.size) = some L.length) :
  (results fn tmps).run P w = .ok (.agg L.toArray) w := by
 obtain ⟨lo, hi', hh, -⟩ := hg
 exact results_cell_row h tmps w g T L.toArray _ _ hp hh hu rfl (by simpa using hi)
open Mvp in
theorem Has.fillB {w : World} {g : Nat} {T : TypeId} {F I : List UInt8} {k : Nat} (h : Has w g (bs (fill F I k)) T) (hl : F.length = I.length) (hk : k < F.length) : Has (w.setCell ⟨g, k, none⟩ (.int .u8 ((F.getD k 0).toNat : Int))) g (bs (fill F I (k + 1))) T := by
 have := h.set k (.int .u8 ((F.getD k 0).toNat : Int))
 rwa [j0X, m0Q _ _ _ hl hk] at this
section
variable {w : World} {ops : Array Oper} {rest : List Oper} {o : Oper} {a : Act} {Q : Exit → Act → World → Prop}
theorem d0I {e : TypeId} (hgd : o.guard = none) (ho : o.op = .alloc e) {z : Value} (hi : (P.info? e).map (·.zero) = some (some z)) (L : List Value) (hL : z.cells.toList = L)
  (h : ∀ w', Has w' w.heap.size L e → Fr Nob w w' → w'.heap.size = w.heap.size + 1 → wpList P ops Q rest (a.put o.dst (.pointer (some ⟨w.heap.size, 0, none⟩))) w') : wpList P ops Q (o :: rest) a w := by
 refine wpList_plain hgd fun K hK => ?_
 obtain ⟨i, hi1, hz⟩ : ∃ i, P.info? e = some i ∧ i.zero = some z := by simpa using hi
 have hr : (Instr.alloc e true (.tuple #[])).run P w = .ok (.pointer (some ⟨w.heap.size, 0, none⟩)) (w.alloc (.cells z.cells e)) := by
  simp [Instr.alloc, zeroValue, typeInfo, hi1, hz, newVar, newRow]
 unfold Oper.wp execOp
 simp only [ho, Sem.run_bind, Sem.run_pure, Result.andThen_ok, hr]
 refine hK _ _ (h _ ?_ ((Fr.refl _ w).alloc _) ap4)
 have := Has.new w z.cells e
 rwa [hL] at this
end
section
variable {w : World} {ops : Array Oper} {rest : List Oper} {o : Oper} {a : Act} {Q : Exit → Act → World → Prop}
theorem a0H (k : IntKind) (n y : Nat) (code : BoundsCode) (h : n ≤ y) : (Instr.sliceBound (.int k (n : Int)) y code).run P w = .ok n w := by
 have : ((n : Int) ≤ (y : Int)) := by omega
 simp [Instr.sliceBound, asIntOf, this]
theorem v0D {ty : TypeId} {x lo hi mx : Operand} (hgd : o.guard = none) (ho : o.op = .slice ty x (some lo) (some hi) (some mx)) {n : Nat} {e : TypeId} (hu : P.underlying ty = some (.array n e)) (hsz : (P.info? e).map (·.size) = some 1)
  {g p : Nat} (hx : a.eval x = .pointer (some ⟨g, p, none⟩)) {kl kh km : IntKind} {il ih im : Int} (hl : a.eval lo = .int kl il) (hh : a.eval hi = .int kh ih) (hm : a.eval mx = .int km im)
  (l h m : Nat) (el : il = l) (eh : ih = h) (em : im = m) (h1 : l < m) (h2 : l ≤ h) (h3 : h ≤ m) (h4 : m ≤ n)
  (hK : wpList P ops Q rest (a.put o.dst (.slice (some ⟨g, p + l, none⟩) (h - l) (m - l))) w) : wpList P ops Q (o :: rest) a w := by
 refine wpList_plain hgd fun K hK' => ?_
 obtain ⟨i, hi1, hi2⟩ : ∃ i, P.info? e = some i ∧ i.size = 1 := by simpa using hsz
 subst el eh em
 have hr : (Instr.sliceAt ty (.pointer (some ⟨g, p, none⟩)) (some (.int kl (l : Int))) (some (.int kh (h : Int))) (some (.int km (m : Int)))).run P w = .ok (.slice (some ⟨g, p + l, none⟩) (h - l) (m - l)) w := by
  have hne : ¬ m = l := by omega
  simp [Instr.sliceAt, run_underlying hu, Instr.sliceBounds, a0H, h2, h3, h4, sizeOf, typeInfo, hi1, hi2, hne, c0V, Instr.sureAddr]
 unfold Oper.wp execOp
 simp only [ho, hx, hl, hh, hm, Option.map_some, Sem.run_bind, Sem.run_pure, Result.andThen_ok, hr]
 exact hK' _ _ hK
def c0q (p : Option Addr) (l m : Nat) : Option Addr := if m = l then p else p.map (·.add l)
theorem i0V {w : World} {p : Option Addr} {n : Nat} {vs : List Value} (hr : Rd w p n vs) (l h m : Nat) (h2 : l ≤ h) (h3 : h ≤ m) (h4 : h ≤ n) : Rd w (c0q p l m) (h - l) ((vs.drop l).take (h - l)) := by
 have hlen := hr.len
 refine ⟨by simp; omega, ?_⟩
 rcases Nat.eq_zero_or_pos (h - l) with h0 | h0
 ·exact .inl h0
 ·obtain ⟨b, o, rfl, hc⟩ := hr.at ap1
  refine .inr ⟨b, o + l, ?_, hc.sub l (h - l)⟩
  simp [c0q, show ¬ m = l by omega, c0V]
theorem l0H {p : Option Addr} {l m : Nat} {x : Addr} (h : c0q p l m = some x) : ∃ y, p = some y ∧ y.block = x.block := by
 unfold c0q at h
 split at h
 ·exact ⟨x, h, rfl⟩
 ·cases p with
  | none => cases h
  | some y =>
   refine ⟨y, rfl, ?_⟩
   simp only [Option.map_some, Option.some.injEq] at h
   subst h
   unfold Addr.add
   split <;> rfl
theorem p0w {S : Nat → Prop} {p : Option Addr} (h : Off S p) (l m : Nat) : Off S (c0q p l m) := by
 intro x hx
 obtain ⟨y, hy, e⟩ := l0H hx
 rw [← e]; exact h y hy
theorem g0f {ty : TypeId} {x : Operand} {lo hi : Option Operand} (hgd : o.guard = none) (ho : o.op = .slice ty x lo hi none) {e : TypeId} (hu : P.underlying ty = some (.slice e)) (hsz : (P.info? e).map (·.size) = some 1)
  {p : Option Addr} {n c : Nat} (hx : a.eval x = .slice p n c) (l h : Nat) (hl : lo.elim (l = 0) (fun y => ∃ k, a.eval y = .int k (l : Int))) (hh : hi.elim (h = n) (fun y => ∃ k, a.eval y = .int k (h : Int))) (h2 : l ≤ h) (h3 : h ≤ c)
  (hK : wpList P ops Q rest (a.put o.dst (.slice (c0q p l c) (h - l) (c - l))) w) : wpList P ops Q (o :: rest) a w := by
 refine wpList_plain hgd fun K hK' => ?_
 obtain ⟨i, hi1, hi2⟩ : ∃ i, P.info? e = some i ∧ i.size = 1 := by simpa using hsz
 have hr : (Instr.sliceAt ty (.slice p n c) (lo.map a.eval) (hi.map a.eval) none).run P w = .ok (.slice (c0q p l c) (h - l) (c - l)) w := by
  cases lo with
  | none =>
   simp only [Option.elim] at hl
   subst hl
   cases hi with
   | none =>
    simp only [Option.elim] at hh
    subst hh
    simp [Instr.sliceAt, Instr.slice, run_underlying hu, Instr.sliceBounds, sizeOf, typeInfo, hi1, c0q]
   | some y =>
    obtain ⟨k, hk⟩ := hh
    simp [Instr.sliceAt, Instr.slice, run_underlying hu, Instr.sliceBounds, a0H, h3, sizeOf, typeInfo, hi1, c0q, hk]
  | some z =>
   obtain ⟨kz, hkz⟩ := hl
   cases hi with
   | none =>
    simp only [Option.elim] at hh
    subst hh
    simp [Instr.sliceAt, Instr.slice, run_underlying hu, Instr.sliceBounds, a0H, h2, sizeOf, typeInfo, hi1, hi2, c0q, hkz]
   | some y =>
    obtain ⟨k, hk⟩ := hh
    simp [Instr.sliceAt, Instr.slice, run_underlying hu, Instr.sliceBounds, a0H, h2, h3, sizeOf, typeInfo, hi1, hi2, c0q, hk, hkz]
 unfold Oper.wp execOp
 simp only [ho, hx, Option.map_none, Sem.run_bind, Sem.run_pure, Result.andThen_ok, hr]
 exact hK' _ _ hK
theorem v0E {ty : TypeId} {x : Operand} {lo : Option Operand} {hi mx : Operand} (hgd : o.guard = none) (ho : o.op = .slice ty x lo (some hi) (some mx)) {e : TypeId} (hu : P.underlying ty = some (.slice e)) (hsz : (P.info? e).map (·.size) = some 1)
  {p : Option Addr} {n c : Nat} (hx : a.eval x = .slice p n c) (l h m : Nat) (hl : lo.elim (l = 0) (fun y => ∃ k, a.eval y = .int k (l : Int))) {kh km : IntKind} {ih im : Int} (hh : a.eval hi = .int kh ih) (hm : a.eval mx = .int km im) (eh : ih = h) (em : im = m) (h2 : l ≤ h) (h3 : h ≤ m) (h4 : m ≤ c)
  (hK : wpList P ops Q rest (a.put o.dst (.slice (c0q p l m) (h - l) (m - l))) w) : wpList P ops Q (o :: rest) a w := by
 refine wpList_plain hgd fun K hK' => ?_
 obtain ⟨i, hi1, hi2⟩ : ∃ i, P.info? e = some i ∧ i.size = 1 := by simpa using hsz
 subst eh em
 have hr : (Instr.sliceAt ty (.slice p n c) (lo.map a.eval) (some (a.eval hi)) (some (a.eval mx))).run P w = .ok (.slice (c0q p l m) (h - l) (m - l)) w := by
  cases lo with
  | none =>
   simp only [Option.elim] at hl
   subst hl
   simp [Instr.sliceAt, Instr.slice, run_underlying hu, Instr.sliceBounds, a0H, h3, h4, sizeOf, typeInfo, hi1, c0q, hh, hm]
  | some z =>
   obtain ⟨kz, hkz⟩ := hl
   simp [Instr.sliceAt, Instr.slice, run_underlying hu, Instr.sliceBounds, a0H, h2, h3, h4, sizeOf, typeInfo, hi1, hi2, c0q, hkz, hh, hm]
 unfold Oper.wp execOp
 simp only [ho, hx, Option.map_some, Sem.run_bind, Sem.run_pure, Result.andThen_ok, hr]
 exact hK' _ _ hK
end
theorem Rd.lt {w : World} {b o n : Nat} {vs : List Value} (h : Rd w (some ⟨b, o, none⟩) n vs) (hn : 0 < n) : b < w.heap.size := by
 obtain ⟨b', o', he, hc⟩ := h.at hn
 simp only [Option.some.injEq, Addr.mk.injEq] at he
 obtain ⟨rfl, rfl, -⟩ := he
 have := hc.cell (i := 0) (by rw [h.len]; exact hn)
 exact block_lt_of_cell this
end Go.Mv
namespace Go.Mv
open Go.RowKit
variable {P : Program}
theorem m0S {w : World} {ops : Array Oper} {rest : List Oper} {o : Oper} {a : Act} {Q : Exit → Act → World → Prop} {t : TypeId} {parts : Array (Nat × Operand)} (hgd : o.guard = none) (ho : o.op = .build t parts) (cells : Array Value)
  (hb : P.built t (parts.map fun (i, x) => (i, a.eval x)).toList = some cells) (h : wpList P ops Q rest (a.put o.dst (.agg cells)) w) : wpList P ops Q (o :: rest) a w := by
 refine wpList_plain hgd fun K hK => ?_
 have hr := run_build (P := P) w t (parts.map fun (i, x) => (i, a.eval x)) cells hb
 unfold Oper.wp execOp
 simp only [ho, Sem.run_bind, Sem.run_pure, Result.andThen_ok, hr]
 exact hK _ _ h
theorem c0r {w : World} {ops : Array Oper} {rest : List Oper} {o : Oper} {a : Act} {Q : Exit → Act → World → Prop} {t : TypeId} (hgd : o.guard = none) (ho : o.op = .build t #[]) (cells : Array Value)
  (hb : P.built t [] = some cells) (h : wpList P ops Q rest (a.put o.dst (.agg cells)) w) : wpList P ops Q (o :: rest) a w :=
 m0S hgd ho cells (by simpa using hb) h
def Old (w : World) (a : Option Addr) : Prop := ∀ x, a = some x → x.block < w.heap.size
theorem Old.grow {w w' : World} {a : Option Addr} (h : Old w a) (hs : w.heap.size ≤ w'.heap.size) : Old w' a := fun x hx => Nat.lt_of_lt_of_le (h x hx) hs
theorem Old.off {w : World} {a : Option Addr} (h : Old w a) {g : Nat} (hg : w.heap.size ≤ g) : Off (One g) a := fun x hx (e : x.block = g) => by have := h x hx; omega
theorem Old.none (w : World) : Old w .none := fun _ h => by cases h
theorem Old.has {w : World} {g : Nat} {L : List Value} {T : TypeId} (h : Has w g L T) (o : Nat) : Old w (some ⟨g, o, .none⟩) := fun x hx => by cases hx; exact h.lt
theorem k0d {w : World} {ops : Array Oper} {rest : List Oper} {o : Oper} {a : Act} {Q : Exit → Act → World → Prop} {e : TypeId} {x : Operand} (hgd : o.guard = none) (ho : o.op = .box e x) {v : Value} (hx : a.eval x = v) (L : List Value) (hL : v.cells.toList = L)
  (h : ∀ w', Has w' w.heap.size L e → Fr Nob w w' → w'.heap.size = w.heap.size + 1 → wpList P ops Q rest (a.put o.dst (.pointer (some ⟨w.heap.size, 0, none⟩))) w') : wpList P ops Q (o :: rest) a w := by
 refine wpList_plain hgd fun K hK => ?_
 have hr : (Instr.box e v).run P w = .ok (.pointer (some ⟨w.heap.size, 0, none⟩)) (w.alloc (.cells v.cells e)) := by
  simp [Instr.box, newVar, newRow]
 unfold Oper.wp execOp
 simp only [ho, hx, Sem.run_bind, Sem.run_pure, Result.andThen_ok, hr]
 refine hK _ _ (h _ ?_ ((Fr.refl _ w).alloc _) ap4)
 have := Has.new w v.cells e
 rwa [hL] at this
theorem p0x {w : World} {ops : Array Oper} {rest : List Oper} {o : Oper} {a : Act} {Q : Exit → Act → World → Prop} {t e : TypeId} {y0 y1 y2 y3 : Operand} (hgd : o.guard = none) (ho : o.op = .buildSlice t 4 #[(0, y0), (1, y1), (2, y2), (3, y3)])
  (hu : P.underlying t = some (.slice e)) (hi0 : (P.info? e).map (fun i => (i.zero, i.size, i.bytes)) = some (some (.int .u8 0), 1, 1)) (x0 x1 x2 x3 : UInt8)
  (h0 : a.eval y0 = .int .u8 (x0.toNat : Int)) (h1 : a.eval y1 = .int .u8 (x1.toNat : Int)) (h2 : a.eval y2 = .int .u8 (x2.toNat : Int)) (h3 : a.eval y3 = .int .u8 (x3.toNat : Int))
  (h : ∀ w', Has w' w.heap.size (bs [x0, x1, x2, x3]) e → Fr Nob w w' → w'.heap.size = w.heap.size + 1 → wpList P ops Q rest (a.put o.dst (.slice (some ⟨w.heap.size, 0, none⟩) 4 4)) w') : wpList P ops Q (o :: rest) a w := by
 obtain ⟨i, hi, hz⟩ : ∃ i, P.info? e = some i ∧ (i.zero, i.size, i.bytes) = (some (.int .u8 0), 1, 1) := by simpa using hi0
 simp only [Prod.mk.injEq] at hz
 obtain ⟨hz, hsz, hby⟩ := hz
 have hp : ((#[(0, y0), (1, y1), (2, y2), (3, y3)] : Array (Nat × Operand)).map fun (i, x) => (i, a.eval x)).toList = [(0, .int .u8 (x0.toNat : Int)), (1, .int .u8 (x1.toNat : Int)), (2, .int .u8 (x2.toNat : Int)), (3, .int .u8 (x3.toNat : Int))] := by simp [h0, h1, h2, h3]
 have hf : Instr.fill (fun j => some (j * i.size, i.size)) ((Array.range (4 * i.size)).map ((Value.int .u8 0).cells[· % (Value.int .u8 0).cells.size]!)) ((#[(0, y0), (1, y1), (2, y2), (3, y3)] : Array (Nat × Operand)).map fun (i, x) => (i, a.eval x)).toList = some (bs [x0, x1, x2, x3]).toArray := by
  rw [hp, hsz]
  exact Great.fill_flat (bs [x0, x1, x2, x3]) _ (fun v hv => by simp [bs] at hv; rcases hv with rfl | rfl | rfl | rfl <;> rfl) (by simp [bs])
 exact wpList_buildSlice hgd t e 4 _ ho _ i _ hu hi hz (by rw [hsz]; decide) (by rw [hsz]; decide) hf (h _ (Has.new w (bs [x0, x1, x2, x3]).toArray e) ((Fr.refl _ w).alloc _) ap4)
theorem Own.cells {w : World} {base : Nat} {T : TypeId} {v : Value} {n : Nat} {L : List Value} (h : Own w base T 1 v n L) (hn : 0 < n) :
  ∃ g o cap, v = .slice (some ⟨g, o, none⟩) n cap ∧ base ≤ g ∧ g < w.heap.size ∧ n ≤ cap ∧ cap ≤ maxLen ∧ (∀ i x, L[i]? = some x → w.cell? ⟨g, o + i, none⟩ = some x) ∧ (∀ i, i < n → w.frozen? ⟨g, o + i, none⟩ = false) ∧
   (∀ i x, i < n → Own (w.setCell ⟨g, o + i, none⟩ x) base T 1 v n (L.set i x)) := by
 obtain ⟨hl, h | ⟨g, o, cap, B, rfl, hb, hg, h1, h2, h3, h4⟩⟩ := h
 ·obtain ⟨_, h0⟩ := h; omega
 ·rw [Nat.mul_one] at h3 h4 hl
  refine ⟨g, o, cap, rfl, hb, hg.lt, h1, h2, ?_, ?_, ?_⟩
  ·intro i x hx
   rw [← h4, List.getElem?_take] at hx
   split at hx
   ·rw [List.getElem?_drop] at hx; exact hg.cell hx
   ·cases hx
  ·intro i hi; exact hg.free _ ap1
  ·intro i x hi
   refine ⟨by rw [List.length_set, hl, Nat.mul_one], .inr ⟨g, o, cap, B.set (o + i) x, rfl, hb, hg.set (o + i) x, h1, h2, by rw [List.length_set]; omega, ?_⟩⟩
   rw [Nat.mul_one, ← h4]
   apply List.ext_getElem?
   intro j
   simp only [List.getElem?_take, List.getElem?_drop, List.getElem?_set]
   by_cases hj : j < n
   ·rw [if_pos hj]
    by_cases e : i = j
    ·subst e
     rw [if_pos rfl, if_pos rfl, if_pos ap1, if_pos (by rw [List.length_take, List.length_drop]; omega)]
    ·rw [if_neg ap1, if_neg e, if_pos hj]
   ·rw [if_neg hj]
    by_cases e : i = j
    ·omega
    ·rw [if_neg e, if_neg hj]
end Go.Mv
namespace Go.Mv
open Go.RowKit
variable {P : Program}
theorem Own.ne {w : World} {base sz n g : Nat} {T T' : TypeId} {v : Value} {L L' : List Value} (h : Own w base T sz v n L) (hg : Has w g L' T') (hT : T ≠ T') : ¬ b0g v g := by
 intro hv
 obtain ⟨_, ⟨rfl, _⟩ | ⟨g', o, cap, B, rfl, _, hg', _⟩⟩ := h
 ·cases hv
 ·have : g' = g := by simpa [b0g, Value.ownBlock] using hv
  subst this
  obtain ⟨_, _, h1, _⟩ := hg
  obtain ⟨_, _, h2, _⟩ := hg'
  rw [h1] at h2
  simp at h2
  exact hT h2.2.1.symm
end Go.Mv
namespace Go.Mv
open Go.RowKit
variable {P : Program}
structure St (S : Nat → Prop) (w0 w : World) (bl : List (Nat × List Value × TypeId)) : Prop where
 fr : Fr S w0 w
 own : ∀ x ∈ bl, w0.heap.size ≤ x.1 ∨ S x.1
 has : ∀ x ∈ bl, Has w x.1 x.2.1 x.2.2
 ne : bl.Pairwise fun x y => x.1 ≠ y.1
theorem St.start (S : Nat → Prop) (w : World) : St S w w [] := ⟨Fr.refl _ _, by simp, by simp, List.Pairwise.nil⟩
theorem St.at {S : Nat → Prop} {w0 w : World} {bl : List (Nat × List Value × TypeId)} (h : St S w0 w bl) (i : Nat) {g : Nat} {L : List Value} {T : TypeId} (hi : bl[i]? = some (g, L, T)) : Has w g L T :=
 h.has _ (List.mem_of_getElem? hi)
theorem St.neAt {S : Nat → Prop} {w0 w : World} {bl : List (Nat × List Value × TypeId)} (h : St S w0 w bl) {i j : Nat} {x y : Nat × List Value × TypeId} (hi : bl[i]? = some x) (hj : bl[j]? = some y) (hij : i ≠ j) : x.1 ≠ y.1 := by
 obtain ⟨hi1, rfl⟩ := List.getElem?_eq_some_iff.1 hi
 obtain ⟨hj1, rfl⟩ := List.getElem?_eq_some_iff.1 hj
 rcases Nat.lt_or_ge i j with k | k
 ·exact List.pairwise_iff_getElem.1 h.ne i j hi1 hj1 k
 ·exact (List.pairwise_iff_getElem.1 h.ne j i hj1 hi1 ap1).symm
theorem St.keep {S : Nat → Prop} {w0 w w' : World} {bl : List (Nat × List Value × TypeId)} (h : St S w0 w bl) (hf : Fr Nob w w') : St S w0 w' bl :=
 ⟨h.fr.same hf, h.own, fun x hx => (h.has x hx).keep hf id, h.ne⟩
theorem St.drew {S : Nat → Prop} {w0 w : World} {bl : List (Nat × List Value × TypeId)} (h : St S w0 w bl) : St S w0 w.drew bl := ⟨h.fr.drew, h.own, h.has, h.ne⟩
theorem St.drewN {S : Nat → Prop} {w0 w : World} {bl : List (Nat × List Value × TypeId)} (h : St S w0 w bl) (n : Nat) : St S w0 (w.drewN n) bl := ⟨h.fr.drewN n, h.own, h.has, h.ne⟩
theorem St.less {S : Nat → Prop} {w0 w : World} {bl bl' : List (Nat × List Value × TypeId)} (h : St S w0 w bl) (hs : bl'.Sublist bl) : St S w0 w bl' :=
 ⟨h.fr, fun x hx => h.own x (hs.subset hx), fun x hx => h.has x (hs.subset hx), h.ne.sublist hs⟩
theorem St.new {S : Nat → Prop} {w0 w w' : World} {bl : List (Nat × List Value × TypeId)} (h : St S w0 w bl) (hf : Fr Nob w w') {g : Nat} {L : List Value} {T : TypeId} (hg : Has w' g L T) (hn : w.heap.size ≤ g) : St S w0 w' (bl ++ [(g, L, T)]) := by
 refine ⟨h.fr.same hf, ?_, ?_, ?_⟩
 ·intro x hx
  rcases List.mem_append.1 hx with hx | hx
  ·exact h.own x hx
  ·simp only [List.mem_singleton] at hx
   subst hx
   exact .inl (Nat.le_trans h.fr.size hn)
 ·intro x hx
  rcases List.mem_append.1 hx with hx | hx
  ·exact (h.has x hx).keep hf id
  ·simp only [List.mem_singleton] at hx
   subst hx
   exact hg
 ·rw [List.pairwise_append]
  refine ⟨h.ne, List.pairwise_singleton _ _, ?_⟩
  intro x hx y hy
  simp only [List.mem_singleton] at hy
  subst hy
  have := (h.has x hx).lt
  show x.1 ≠ g
  omega
theorem St.put {S : Nat → Prop} {w0 w w' : World} {bl : List (Nat × List Value × TypeId)} (h : St S w0 w bl) (i : Nat) {g : Nat} {L L' : List Value} {T : TypeId} (hi : bl[i]? = some (g, L, T)) (hf : Fr (One g) w w') (hg : Has w' g L' T) : St S w0 w' (bl.set i (g, L', T)) := by
 obtain ⟨hi1, hi2⟩ := List.getElem?_eq_some_iff.1 hi
 refine ⟨?_, ?_, ?_, ?_⟩
 ·refine h.fr.trans hf fun j hj hjg => ?_
  have hjg' : j = g := hjg
  subst hjg'
  rcases h.own _ (List.mem_of_getElem? hi) with k | k
  ·have k' : w0.heap.size ≤ j := k
   omega
  ·exact k
 ·intro x hx
  rcases List.mem_or_eq_of_mem_set hx with hx | rfl
  ·exact h.own x hx
  ·exact h.own (g, L, T) (List.mem_of_getElem? hi)
 ·intro x hx
  obtain ⟨j, hj1, hj2⟩ := List.mem_iff_getElem.1 hx
  rw [List.length_set] at hj1
  rw [List.getElem_set] at hj2
  by_cases e : i = j
  ·rw [if_pos e] at hj2; subst hj2; exact hg
  ·rw [if_neg e] at hj2
   subst hj2
   refine (h.has _ (List.getElem_mem hj1)).keep hf fun t => ?_
   exact h.neAt hi (List.getElem?_eq_getElem hj1) e (Eq.symm t)
 ·rw [List.pairwise_iff_getElem]
  intro j k hj hk hjk
  have e := List.pairwise_iff_getElem.1 h.ne j k (by simpa using hj) (by simpa using hk) hjk
  rw [List.getElem_set, List.getElem_set]
  split
  ·rename_i e1; subst e1
   rw [hi2] at e
   split
   ·omega
   ·exact e
  ·split
   ·rename_i e2; subst e2; rw [hi2] at e; exact e
   ·exact e
theorem St.set {S : Nat → Prop} {w0 w : World} {bl : List (Nat × List Value × TypeId)} (h : St S w0 w bl) (i : Nat) {g : Nat} {L : List Value} {T : TypeId} (hi : bl[i]? = some (g, L, T)) (k : Nat) (v : Value) : St S w0 (w.setCell ⟨g, k, none⟩ v) (bl.set i (g, L.set k v, T)) :=
 h.put i hi ((Fr.refl (One g) w).setCell g k none v (fun _ => rfl)) ((h.at i hi).set k v)
theorem St.take {S : Nat → Prop} {w0 w : World} {bl : List (Nat × List Value × TypeId)} (h : St S w0 w bl) {g : Nat} {L : List Value} {T : TypeId} (hg : Has w g L T) (hS : S g) (hn : ∀ x ∈ bl, x.1 ≠ g) : St S w0 w (bl ++ [(g, L, T)]) := by
 refine ⟨h.fr, ?_, ?_, ?_⟩
 ·intro x hx
  rcases List.mem_append.1 hx with hx | hx
  ·exact h.own x hx
  ·simp only [List.mem_singleton] at hx; subst hx; exact .inr hS
 ·intro x hx
  rcases List.mem_append.1 hx with hx | hx
  ·exact h.has x hx
  ·simp only [List.mem_singleton] at hx; subst hx; exact hg
 ·rw [List.pairwise_append]
  refine ⟨h.ne, List.pairwise_singleton _ _, ?_⟩
  intro x hx y hy
  simp only [List.mem_singleton] at hy
  subst hy
  exact hn x hx
theorem St.one {w : World} {g : Nat} {L : List Value} {T : TypeId} (hg : Has w g L T) : St (One g) w w [(g, L, T)] := (St.start (One g) w).take hg rfl ap4
section
variable {w w0 : World} {ops : Array Oper} {rest : List Oper} {o : Oper} {a : Act} {Q : Exit → Act → World → Prop} {S : Nat → Prop} {bl : List (Nat × List Value × TypeId)}
theorem a0r (hst : St S w0 w bl) {e : TypeId} {x : Operand} (hgd : o.guard = none) (ho : o.op = .box e x) {v : Value} (hx : a.eval x = v) (L : List Value) (hL : v.cells.toList = L)
  (h : ∀ g w', St S w0 w' (bl ++ [(g, L, e)]) → wpList P ops Q rest (a.put o.dst (.pointer (some ⟨g, 0, none⟩))) w') : wpList P ops Q (o :: rest) a w :=
 k0d hgd ho hx L hL fun w' hg hf _ => h _ w' (hst.new hf hg (Nat.le_refl _))
theorem a0b (hst : St S w0 w bl) {e : TypeId} (hgd : o.guard = none) (ho : o.op = .alloc e) {z : Value} (hi : (P.info? e).map (·.zero) = some (some z)) (L : List Value) (hL : z.cells.toList = L)
  (h : ∀ g w', St S w0 w' (bl ++ [(g, L, e)]) → wpList P ops Q rest (a.put o.dst (.pointer (some ⟨g, 0, none⟩))) w') : wpList P ops Q (o :: rest) a w :=
 d0I hgd ho hi L hL fun w' hg hf _ => h _ w' (hst.new hf hg (Nat.le_refl _))
theorem a0m (hst : St S w0 w bl) (i : Nat) {g : Nat} {L : List Value} {T : TypeId} (hb : bl[i]? = some (g, L, T)) {ty : TypeId} {x : Operand} (hgd : o.guard = none) (ho : o.op = .load ty x) {n : Nat} {e : TypeId} (hu : P.underlying ty = some (.array n e)) (hx : a.eval x = .pointer (some ⟨g, 0, none⟩))
  (hi : (P.info? ty).map (·.size) = some L.length) (h : wpList P ops Q rest (a.put o.dst (.agg L.toArray)) w) : wpList P ops Q (o :: rest) a w :=
 c0H hgd ho hu hx (hst.at i hb) L dZl hi h
theorem a0s (hst : St S w0 w bl) (i : Nat) {g : Nat} {L : List Value} {T : TypeId} (hb : bl[i]? = some (g, L, T)) {ty : TypeId} {x : Operand} (hgd : o.guard = none) (ho : o.op = .load ty x) {d : TypeDesc} (hu : P.underlying ty = some d) (hd : d.isRow = true) (hx : a.eval x = .pointer (some ⟨g, 0, none⟩))
  (hi : (P.info? ty).map (·.size) = some L.length) (h : wpList P ops Q rest (a.put o.dst (.agg L.toArray)) w) : wpList P ops Q (o :: rest) a w :=
 wpList_load_mid hgd ty x ho g 0 hx L _ ((hst.at i hb).range 0 L dZl) hu hd hi h
theorem a0c (hst : St S w0 w bl) (i : Nat) {g : Nat} {L : List Value} {T : TypeId} (hb : bl[i]? = some (g, L, T)) {ty : TypeId} {x y : Operand} (hgd : o.guard = none) (ho : o.op = .store ty x y) (hx : a.eval x = .pointer (some ⟨g, 0, none⟩)) {cs : List Value} (hy : a.eval y = .agg cs.toArray)
  (hn : cs.length = L.length) (hi : (P.info? ty).map (·.size) = some cs.length) (h1 : ∀ v ∈ cs, v.oneCell' = true)
  (h : ∀ w', St S w0 w' (bl.set i (g, cs, T)) → wpList P ops Q rest (a.put o.dst undef) w') : wpList P ops Q (o :: rest) a w :=
 d0z hgd ho hx hy (hst.at i hb) ap1 hi h1 fun w' hg hf _ => h w' (hst.put i hb hf (by rwa [b0L _ _ hn] at hg))
end
end Go.Mv
namespace Go.Mv
open Go.RowKit
section
variable {P : Program} {ops : Array Oper} {md : Region.Mode} {Q : Exit → Act → World → Prop} {S : World → Prop}
def i0o (P : Program) (md : Region.Mode) (ops : Array Oper) (Q : Exit → Act → World → Prop) (S : World → Prop) (n g : Nat) (tl : List Oper) : Nat → Array Bool → Act → World → Prop
 | 0, listed, a, w => Region.seqB md ops g n listed = true ∧ wpList P ops Q tl a w
 | f + 1, listed, a, w =>
  Region.ready md ops listed ≠ [] ∧ ∀ i ∈ Region.ready md ops listed, i < n ∧ wpOp P ops Q i (fun a' w' => S w' ∧ i0o P md ops Q S n g tl f (listed.setIfInBounds i true) a' w') a w
theorem f0P {n : Nat} {tl : List Oper} (hl : ∀ j, tl[j]? = ops[n + j]?) : ∀ (f : Nat) (listed : Array Bool) (a : Act) (w : World), i0o P md ops Q S n tl.length tl f listed a w → wpAny P md ops Q (f + tl.length) listed a w
 | 0, listed, a, w, h => by rw [Nat.zero_add]; exact wpAny_of_seq tl n listed a w hl h.1 h.2
 | f + 1, listed, a, w, h => by
  rw [show f + 1 + tl.length = (f + tl.length) + 1 by omega]
  exact ⟨fun h0 => absurd h0 h.1, fun i hi => wpOp_mono (fun a' w' h' => f0P hl f _ a' w' h'.2) (h.2 i hi).2⟩
theorem g0g {n g i : Nat} {oi : Oper} {v : Value} {tl : List Oper} (hi : ops[i]? = some oi) (hsel : ∀ (j : Nat) (o : Oper) cs b, ops[j]? = some o → o.op ≠ .select cs b)
  (hQ : ∀ c a w, Q (.panic c) (a.put oi.dst v) w → Q (.panic c) a w)
  (hs : Region.sinkB md ops n = true) (hc : Region.chainB md ops n = true) (hn : n < ops.size) (hin : i < n) :
  ∀ (f : Nat) (listed : Array Bool) (a : Act) (w : World), HeadInv md ops n listed →
   (∀ j oj, ops[j]? = some oj → j ≠ i → listed.getD j true = false → (∀ e ∈ oj.after, Region.binds md e = true → e.on ≠ i) → oi.apart ops oj = true) →
   i ∈ Region.ready md ops listed → YieldsIf P ops S oi v a → S w →
   i0o P md ops Q S n g tl f (listed.setIfInBounds i true) (a.put oi.dst v) w → i0o P md ops Q S n g tl (f + 1) listed a w := by
 intro f
 induction f with
 | zero =>
  intro listed a w inv _ hr hy hS H
  have hun := (mem_ready.1 hr).1
  refine ⟨fun h => (by rw [h] at hr; cases hr), fun j hj => ?_⟩
  have hjn : j < n := by
   rcases Nat.lt_or_ge j n with h | h
   ·exact h
   ·exact absurd hj (tail_waits hs hc hn inv _ i rfl hin hun j h)
  refine ⟨hjn, ?_⟩
  by_cases hji : j = i
  ·subst hji; exact hy.wpOp hi hS ⟨hS, H⟩
  ·have := seqB_ready H.1 j (ready_mono hj hji)
   omega
 | succ f ih =>
  intro listed a w inv hfree hr hy hS H
  have hun := (mem_ready.1 hr).1
  refine ⟨fun h => (by rw [h] at hr; cases hr), fun j hj => ?_⟩
  have hjn : j < n := by
   rcases Nat.lt_or_ge j n with h | h
   ·exact h
   ·exact absurd hj (tail_waits hs hc hn inv _ i rfl hin hun j h)
  refine ⟨hjn, ?_⟩
  by_cases hji : j = i
  ·subst hji; exact hy.wpOp hi hS ⟨hS, H⟩
  ·have h1 := (H.2 j (ready_mono hj hji)).2
   obtain ⟨hjun, oj, hoj, hall⟩ := mem_ready.1 hj
   have hnot : ∀ e ∈ oj.after, Region.binds md e = true → e.on ≠ i := fun e he hb heq => by
    have h1 := hall e he hb
    rw [heq, getD_both hun] at h1
    cases h1
   have h2 := wpOp_putIf hoj (hfree j oj hoj hji hjun hnot) (fun cs b => hsel i oi cs b hi) (fun cs b => hsel j oj cs b hoj) hQ hy h1
   have hfree' : ∀ k ok, ops[k]? = some ok → k ≠ i → (listed.setIfInBounds j true).getD k true = false →
     (∀ e ∈ ok.after, Region.binds md e = true → e.on ≠ i) → oi.apart ops ok = true := fun k ok hk hki hun hno => by
    refine hfree k ok hk hki ?_ hno
    by_cases hjk : j = k
    ·subst hjk; exact hjun
    ·rw [getD_set_ne true hjk] at hun; exact hun
   refine wpOp_mono (fun a' w' h3 => ⟨h3.2.1, ih (listed.setIfInBounds j true) a' w' (inv.set hj hjn) hfree' (ready_mono hr (Ne.symm hji)) h3.1 h3.2.1 ?_⟩) h2
   rw [Array.setIfInBounds_comm _ _ hji]
   exact h3.2.2
def l0I (P : Program) (ops : Array Oper) (Q : Exit → Act → World → Prop) (S : World → Prop) (tl : List Oper) : List (Nat × Bool) → Act → World → Prop
 | [], a, w => wpList P ops Q tl a w
 | (i, true) :: r, a, w => ∃ o v, ops[i]? = some o ∧ YieldsIf P ops S o v a ∧ l0I P ops Q S tl r (a.put o.dst v) w
 | (i, false) :: r, a, w => ∃ o, ops[i]? = some o ∧ o.guard = none ∧ o.wp P a w (fun a' w' => S w' ∧ l0I P ops Q S tl r a' w') Q
def o0d (md : Region.Mode) (ops : Array Oper) (n g : Nat) : List (Nat × Bool) → Array Bool → Bool
 | [], listed => Region.seqB md ops g n listed
 | (i, true) :: r, listed => decide (i < n) && (Region.ready md ops listed).contains i && Region.free md ops listed i && o0d md ops n g r (listed.setIfInBounds i true)
 | (i, false) :: r, listed => decide (i < n) && decide (Region.ready md ops listed = [i]) && o0d md ops n g r (listed.setIfInBounds i true)
theorem d0J {n g : Nat} {tl : List Oper} (hsel : Region.noSelect ops = true) (hs : Region.sinkB md ops n = true) (hc : Region.chainB md ops n = true) (hn : n < ops.size)
  (hQ : ∀ c (d : Option Tmp) v a w, Q (.panic c) (Act.put a d v) w → Q (.panic c) a w) :
  ∀ (s : List (Nat × Bool)) (listed : Array Bool) (a : Act) (w : World), HeadInv md ops n listed → o0d md ops n g s listed = true → S w → l0I P ops Q S tl s a w → i0o P md ops Q S n g tl s.length listed a w
 | [], listed, a, w, _, hB, _, h => ⟨hB, h⟩
 | (i, true) :: r, listed, a, w, inv, hB, hS, h => by
  obtain ⟨o, v, ho, hy, hK⟩ := h
  simp only [o0d, Bool.and_eq_true, decide_eq_true_eq] at hB
  obtain ⟨⟨⟨hin, hr⟩, hf⟩, hB'⟩ := hB
  have hr' : i ∈ Region.ready md ops listed := by simpa using hr
  exact g0g ho (Region.noSelect_spec hsel) (fun c a w => hQ c o.dst v a w) hs hc hn hin r.length listed a w inv (Region.free_spec ho hf) hr' hy hS
   (d0J hsel hs hc hn hQ r _ _ w (inv.set hr' hin) hB' hS hK)
 | (i, false) :: r, listed, a, w, inv, hB, hS, h => by
  obtain ⟨o, ho, hg, hK⟩ := h
  simp only [o0d, Bool.and_eq_true, decide_eq_true_eq] at hB
  obtain ⟨⟨hin, hr⟩, hB'⟩ := hB
  have hr' : i ∈ Region.ready md ops listed := by rw [hr]; simp
  refine ⟨by rw [hr]; simp, fun j hj => ?_⟩
  rw [hr] at hj
  have hj' : j = i := by simpa using hj
  subst hj'
  refine ⟨hin, ?_⟩
  unfold wpOp
  simp only [ho]
  rw [if_pos (by simp [Region.wanted, hg])]
  exact .inl (Oper.wp_mono (fun a' w' h' => ⟨h'.1, d0J hsel hs hc hn hQ r _ a' w' (inv.set hr' hin) hB' h'.1 h'.2⟩) hK)
def u0w (ops : Array Oper) (n : Nat) (s : List (Nat × Bool)) : Bool :=
 Region.noSelect ops && decide (n < ops.size) && decide (s.length = n) && Region.sinkB .any ops n && Region.chainB .any ops n && o0d .any ops n (ops.size - n) s (Array.replicate ops.size false)
theorem i0W {id : Nat} {a : Act} {w : World} {l : List Oper} (S : World → Prop) (n : Nat) (s : List (Nat × Bool)) (hm : P.follows .mixedOrders = true) (hB : u0w l.toArray n s = true)
  (hS : S w.drew) (hQ : ∀ c (d : Option Tmp) v a w, Q (.panic c) (Act.put a d v) w → Q (.panic c) a w)
  (h : l0I P l.toArray Q S (l.drop n) s a w.drew) : (Code.region id l.toArray true).wp P Q a w := by
 simp only [u0w, Bool.and_eq_true, decide_eq_true_eq] at hB
 obtain ⟨⟨⟨⟨⟨hsel, hn⟩, hlen⟩, hs⟩, hc⟩, hseq⟩ := hB
 have inv0 : HeadInv .any l.toArray n (Array.replicate l.toArray.size false) :=
  ⟨by simp, fun j oj _ hl => (by rw [getD_replicate_false] at hl; cases hl), fun t _ ht => getD_in (by simpa using ht) (getD_replicate_false _ _)⟩
 have hdl : (l.drop n).length = l.toArray.size - n := by simp
 rw [← hdl] at hseq
 have H := d0J (md := .any) (g := (l.drop n).length) (tl := l.drop n) hsel hs hc hn hQ s _ a w.drew inv0 hseq hS h
 refine wp_region_any hm ?_
 have := f0P (md := .any) (n := n) (tl := l.drop n) (fun j => by simp [List.getElem?_drop]) _ _ _ _ H
 rw [hlen, hdl, show n + (l.toArray.size - n) = l.toArray.size by omega] at this
 exact this
variable {l tl : List Oper} {i : Nat} {r : List (Nat × Bool)} {a : Act} {w : World} {o : Oper}
theorem v0F (h : wpList P ops Q tl a w) : l0I P ops Q S tl [] a w := h
theorem m0T (ho : l[i]? = some o) (hg : o.guard = none) {v : Value} (hv : ∀ wx, S wx → (execOp a.eval o).run P wx = .ok (.value v) wx) (h : l0I P l.toArray Q S tl r (a.put o.dst v) w) : l0I P l.toArray Q S tl ((i, true) :: r) a w :=
 ⟨o, v, by simpa using ho, .inl ⟨by simp [Region.wanted, hg], hv⟩, h⟩
end
theorem St.rangeL {S : Nat → Prop} {w0 w : World} {bl : List (Nat × List Value × TypeId)} (h : St S w0 w bl) (i : Nat) {g : Nat} {L : List Value} {T : TypeId} (hb : bl[i]? = some (g, L, T)) (o : Nat) (cs : List Value) (hcs : (L.drop o).take cs.length = cs) : w.rangeAt g o cs := (h.at i hb).range o cs hcs
end Go.Mv
namespace Go.Mv
open Go.RowKit
section
variable {P : Program} {ops : Array Oper} {md : Region.Mode} {Q : Exit → Act → World → Prop} {S : World → Prop}
inductive Sc where
 | nil
 | t (i : Nat) (s : Sc)
 | r (i : Nat) (s : Sc)
 | b (i j : Nat) (s u : Sc)
def Sc.len : Sc → Nat
 | .nil => 0
 | .t _ s => s.len + 1
 | .r _ s => s.len + 1
 | .b _ _ s _ => s.len + 1
def c0T (P : Program) (ops : Array Oper) (Q : Exit → Act → World → Prop) (S : World → Prop) (tl : List Oper) : Sc → Act → World → Prop
 | .nil, a, w => wpList P ops Q tl a w
 | .t i s, a, w => ∃ o v, ops[i]? = some o ∧ YieldsIf P ops S o v a ∧ c0T P ops Q S tl s (a.put o.dst v) w
 | .r i s, a, w => ∃ o, ops[i]? = some o ∧ o.guard = none ∧ o.wp P a w (fun a' w' => S w' ∧ c0T P ops Q S tl s a' w') Q
 | .b i j s u, a, w => (∃ o, ops[i]? = some o ∧ o.guard = none ∧ o.wp P a w (fun a' w' => S w' ∧ c0T P ops Q S tl s a' w') Q) ∧
   (∃ o, ops[j]? = some o ∧ o.guard = none ∧ o.wp P a w (fun a' w' => S w' ∧ c0T P ops Q S tl u a' w') Q)
def f0f (md : Region.Mode) (ops : Array Oper) (n g : Nat) : Sc → Array Bool → Bool
 | .nil, listed => Region.seqB md ops g n listed
 | .t i s, listed => decide (i < n) && (Region.ready md ops listed).contains i && Region.free md ops listed i && f0f md ops n g s (listed.setIfInBounds i true)
 | .r i s, listed => decide (i < n) && decide (Region.ready md ops listed = [i]) && f0f md ops n g s (listed.setIfInBounds i true)
 | .b i j s u, listed => decide (i < n) && decide (j < n) && decide (s.len = u.len) && decide (Region.ready md ops listed = [i, j]) && f0f md ops n g s (listed.setIfInBounds i true) && f0f md ops n g u (listed.setIfInBounds j true)
theorem c0b {n g : Nat} {tl : List Oper} (hsel : Region.noSelect ops = true) (hs : Region.sinkB md ops n = true) (hc : Region.chainB md ops n = true) (hn : n < ops.size)
  (hQ : ∀ c (d : Option Tmp) v a w, Q (.panic c) (Act.put a d v) w → Q (.panic c) a w) :
  ∀ (s : Sc) (listed : Array Bool) (a : Act) (w : World), HeadInv md ops n listed → f0f md ops n g s listed = true → S w → c0T P ops Q S tl s a w → i0o P md ops Q S n g tl s.len listed a w
 | .nil, listed, a, w, _, hB, _, h => ⟨hB, h⟩
 | .t i r, listed, a, w, inv, hB, hS, h => by
  obtain ⟨o, v, ho, hy, hK⟩ := h
  simp only [f0f, Bool.and_eq_true, decide_eq_true_eq] at hB
  obtain ⟨⟨⟨hin, hr⟩, hf⟩, hB'⟩ := hB
  have hr' : i ∈ Region.ready md ops listed := by simpa using hr
  exact g0g ho (Region.noSelect_spec hsel) (fun c a w => hQ c o.dst v a w) hs hc hn hin r.len listed a w inv (Region.free_spec ho hf) hr' hy hS
   (c0b hsel hs hc hn hQ r _ _ w (inv.set hr' hin) hB' hS hK)
 | .r i r, listed, a, w, inv, hB, hS, h => by
  obtain ⟨o, ho, hg, hK⟩ := h
  simp only [f0f, Bool.and_eq_true, decide_eq_true_eq] at hB
  obtain ⟨⟨hin, hr⟩, hB'⟩ := hB
  have hr' : i ∈ Region.ready md ops listed := by rw [hr]; simp
  refine ⟨by rw [hr]; simp, fun j hj => ?_⟩
  rw [hr] at hj
  have hj' : j = i := by simpa using hj
  subst hj'
  refine ⟨hin, ?_⟩
  unfold wpOp
  simp only [ho]
  rw [if_pos (by simp [Region.wanted, hg])]
  exact .inl (Oper.wp_mono (fun a' w' h' => ⟨h'.1, c0b hsel hs hc hn hQ r _ a' w' (inv.set hr' hin) hB' h'.1 h'.2⟩) hK)
 | .b i j r u, listed, a, w, inv, hB, hS, h => by
  obtain ⟨⟨o, ho, hg, hK⟩, ⟨o2, ho2, hg2, hK2⟩⟩ := h
  simp only [f0f, Bool.and_eq_true, decide_eq_true_eq] at hB
  obtain ⟨⟨⟨⟨⟨hin, hjn⟩, hlen⟩, hr⟩, hB1⟩, hB2⟩ := hB
  have hri : i ∈ Region.ready md ops listed := by rw [hr]; simp
  have hrj : j ∈ Region.ready md ops listed := by rw [hr]; simp
  refine ⟨by rw [hr]; simp, fun k hk => ?_⟩
  rw [hr] at hk
  have hk' : k = i ∨ k = j := by simpa using hk
  rcases hk' with e | e
  ·subst e
   refine ⟨hin, ?_⟩
   unfold wpOp
   simp only [ho]
   rw [if_pos (by simp [Region.wanted, hg])]
   exact .inl (Oper.wp_mono (fun a' w' h' => ⟨h'.1, c0b hsel hs hc hn hQ r _ a' w' (inv.set hri hin) hB1 h'.1 h'.2⟩) hK)
  ·subst e
   refine ⟨hjn, ?_⟩
   unfold wpOp
   simp only [ho2]
   rw [if_pos (by simp [Region.wanted, hg2])]
   rw [hlen]
   exact .inl (Oper.wp_mono (fun a' w' h' => ⟨h'.1, c0b hsel hs hc hn hQ u _ a' w' (inv.set hrj hjn) hB2 h'.1 h'.2⟩) hK2)
def p0y (ops : Array Oper) (n : Nat) (s : Sc) : Bool :=
 Region.noSelect ops && decide (n < ops.size) && decide (s.len = n) && Region.sinkB .any ops n && Region.chainB .any ops n && f0f .any ops n (ops.size - n) s (Array.replicate ops.size false)
theorem i0d {id : Nat} {a : Act} {w : World} {l : List Oper} (S : World → Prop) (n : Nat) (s : Sc) (hm : P.follows .mixedOrders = true) (hB : p0y l.toArray n s = true)
  (hS : S w.drew) (hQ : ∀ c (d : Option Tmp) v a w, Q (.panic c) (Act.put a d v) w → Q (.panic c) a w)
  (h : c0T P l.toArray Q S (l.drop n) s a w.drew) : (Code.region id l.toArray true).wp P Q a w := by
 simp only [p0y, Bool.and_eq_true, decide_eq_true_eq] at hB
 obtain ⟨⟨⟨⟨⟨hsel, hn⟩, hlen⟩, hs⟩, hc⟩, hseq⟩ := hB
 have inv0 : HeadInv .any l.toArray n (Array.replicate l.toArray.size false) :=
  ⟨by simp, fun j oj _ hl => (by rw [getD_replicate_false] at hl; cases hl), fun t _ ht => getD_in (by simpa using ht) (getD_replicate_false _ _)⟩
 have hdl : (l.drop n).length = l.toArray.size - n := by simp
 rw [← hdl] at hseq
 have H := c0b (md := .any) (g := (l.drop n).length) (tl := l.drop n) hsel hs hc hn hQ s _ a w.drew inv0 hseq hS h
 refine wp_region_any hm ?_
 have := f0P (md := .any) (n := n) (tl := l.drop n) (fun j => by simp [List.getElem?_drop]) _ _ _ _ H
 rw [hlen, hdl, show n + (l.toArray.size - n) = l.toArray.size by omega] at this
 exact this
variable {l tl : List Oper} {i j : Nat} {s u : Sc} {a : Act} {w : World} {o o2 : Oper}
theorem m0U (h : wpList P ops Q tl a w) : c0T P ops Q S tl .nil a w := h
theorem c0s (ho : l[i]? = some o) (hg : o.guard = none) {v : Value} (hv : ∀ wx, S wx → (execOp a.eval o).run P wx = .ok (.value v) wx) (h : c0T P l.toArray Q S tl s (a.put o.dst v) w) : c0T P l.toArray Q S tl (.t i s) a w :=
 ⟨o, v, by simpa using ho, .inl ⟨by simp [Region.wanted, hg], hv⟩, h⟩
theorem g0x (ho : l[i]? = some o) (hg : o.guard = none) (h : o.wp P a w (fun a' w' => S w' ∧ c0T P l.toArray Q S tl s a' w') Q) : c0T P l.toArray Q S tl (.r i s) a w :=
 ⟨o, by simpa using ho, hg, h⟩
theorem m0V (ho : l[i]? = some o) (hg : o.guard = none) {ty : TypeId} {x : Operand} (hop : o.op = .load ty x) {g p : Nat} (hx : a.eval x = .pointer (some ⟨g, p, none⟩)) (cs : List Value) (hS : ∀ wx, S wx → wx.rangeAt g p cs)
  {d : TypeDesc} (hu : P.underlying ty = some d) (hd : d.isRow = true) (hi : (P.info? ty).map (·.size) = some cs.length) (h : c0T P l.toArray Q S tl s (a.put o.dst (.agg cs.toArray)) w) : c0T P l.toArray Q S tl (.t i s) a w :=
 ⟨o, _, by simpa using ho, yieldsIf_load_mid (by simp [Region.wanted, hg]) ty x hop g p hx cs d hS hu hd hi, h⟩
theorem p0z {C F : Nat → World → Prop} (ho : l[i]? = some o) (hg : o.guard = none) (ho2 : l[j]? = some o2) (hg2 : o2.guard = none)
  (h1 : (∀ g w', C g w' → F g w') → o.wp P a w (fun a' w' => S w' ∧ c0T P l.toArray Q S tl s a' w') Q)
  (h2 : (∀ g w', C g w' → F g w') → o2.wp P a w (fun a' w' => S w' ∧ c0T P l.toArray Q S tl u a' w') Q)
  (h : ∀ g w', C g w' → F g w') : c0T P l.toArray Q S tl (.b i j s u) a w :=
 ⟨⟨o, by simpa using ho, hg, h1 h⟩, ⟨o2, by simpa using ho2, hg2, h2 h⟩⟩
end
section
variable {P : Program} {w w0 : World} {o : Oper} {a : Act} {K : Act → World → Prop} {Q : Exit → Act → World → Prop} {S : Nat → Prop} {bl : List (Nat × List Value × TypeId)}
theorem a0X (hst : St S w0 w bl) {e : TypeId} (ho : o.op = .alloc e) {z : Value} (hi : (P.info? e).map (·.zero) = some (some z)) (L : List Value) (hL : z.cells.toList = L)
  (h : ∀ g w', St S w0 w' (bl ++ [(g, L, e)]) → K (a.put o.dst (.pointer (some ⟨g, 0, none⟩))) w') : o.wp P a w K Q := by
 obtain ⟨i, hi1, hz⟩ : ∃ i, P.info? e = some i ∧ i.zero = some z := by simpa using hi
 have hr : (Instr.alloc e true (.tuple #[])).run P w = .ok (.pointer (some ⟨w.heap.size, 0, none⟩)) (w.alloc (.cells z.cells e)) := by
  simp [Instr.alloc, zeroValue, typeInfo, hi1, hz, newVar, newRow]
 unfold Oper.wp execOp
 simp only [ho, Sem.run_bind, Sem.run_pure, Result.andThen_ok, hr]
 have hg := Has.new w z.cells e
 rw [hL] at hg
 exact h _ _ (hst.new ((Fr.refl _ w).alloc _) hg (Nat.le_refl _))
theorem a0i (hst : St S w0 w bl) (i : Nat) {g : Nat} {L : List Value} {T : TypeId} (hb : bl[i]? = some (g, L, T)) {ty : TypeId} {x y : Operand} (ho : o.op = .store ty x y) (hx : a.eval x = .pointer (some ⟨g, 0, none⟩)) {cs : List Value} (hy : a.eval y = .agg cs.toArray)
  (hn : cs.length = L.length) (hi : (P.info? ty).map (·.size) = some cs.length) (h1 : ∀ v ∈ cs, v.oneCell' = true)
  (h : ∀ w', St S w0 w' (bl.set i (g, cs, T)) → K (a.put o.dst undef) w') : o.wp P a w K Q := by
 obtain ⟨k1, k2, _⟩ := Has.setCells cs 0 L w (hst.at i hb) ap1
 rw [b0L _ _ hn] at k1
 exact wp_store_mid ty x y ho g 0 cs.toArray hx hy (by simpa using (hst.at i hb).there 0 cs.length ap1) (by simpa using hi) (all_oneCell_toArray h1) (by simpa using h _ (hst.put i hb k2 k1))
end
end Go.Mv
namespace Go.Mv
open Go.RowKit
variable {P : Program}
structure Ox where
 v : Value
 T : TypeId
 sz : Nat
 n : Nat
 L : List Value
structure OwS (w : World) (base : Nat) (X : Nat → Prop) (l : List Ox) : Prop where
 own : ∀ x ∈ l, Own w base x.T x.sz x.v x.n x.L
 off : ∀ x ∈ l, ∀ k, b0g x.v k → ¬ X k
 sep : l.Pairwise fun a b => ∀ k, b0g a.v k → ¬ b0g b.v k
 lt : ∀ k, X k → k < w.heap.size
theorem OwS.nil {w : World} {base : Nat} {X : Nat → Prop} (h : ∀ k, X k → k < w.heap.size) : OwS w base X [] := ⟨by simp, by simp, List.Pairwise.nil, h⟩
theorem OwS.at {w : World} {base : Nat} {X : Nat → Prop} {l : List Ox} (h : OwS w base X l) (i : Nat) {x : Ox} (hi : l[i]? = some x) : Own w base x.T x.sz x.v x.n x.L := h.own x (List.mem_of_getElem? hi)
theorem OwS.keep {w w' : World} {base : Nat} {X : Nat → Prop} {l : List Ox} (h : OwS w base X l) {S : Nat → Prop} (hf : Fr S w w') (hS : ∀ k, S k → X k) : OwS w' base X l :=
 ⟨fun x hx => (h.own x hx).keep hf fun k hk hs => h.off x hx k hk (hS k hs), h.off, h.sep, fun k hk => Nat.lt_of_lt_of_le (h.lt k hk) hf.size⟩
theorem OwS.still {w w' : World} {base : Nat} {X : Nat → Prop} {l : List Ox} (h : OwS w base X l) (hf : Fr Nob w w') : OwS w' base X l := h.keep hf fun _ t => t.elim
theorem OwS.new {w w' : World} {base : Nat} {X : Nat → Prop} {l : List Ox} (h : OwS w base X l) (hf : Fr Nob w w') {x : Ox} (ho : Own w' w.heap.size x.T x.sz x.v x.n x.L) (hb : base ≤ w.heap.size) : OwS w' base X (l ++ [x]) := by
 have h2 := h.still hf
 refine ⟨?_, ?_, ?_, h2.lt⟩
 ·intro y hy
  rcases List.mem_append.1 hy with hy | hy
  ·exact h2.own y hy
  ·rw [List.mem_singleton.1 hy]; exact ho.mono hb
 ·intro y hy
  rcases List.mem_append.1 hy with hy | hy
  ·exact h2.off y hy
  ·rw [List.mem_singleton.1 hy]
   intro k hk hx
   have h3 := (ho.lt hk).1
   have h4 := h.lt k hx
   omega
 ·rw [List.pairwise_append]
  refine ⟨h.sep, by simp, fun a ha b hb2 k hk hk2 => ?_⟩
  rw [List.mem_singleton.1 hb2] at hk2
  have h3 := (ho.lt hk2).1
  have h4 := ((h.own a ha).lt hk).2
  omega
theorem OwS.sepAt {w : World} {base : Nat} {X : Nat → Prop} {l : List Ox} (h : OwS w base X l) {i j : Nat} {x y : Ox} (hi : l[i]? = some x) (hj : l[j]? = some y) (hij : i ≠ j) : ∀ k, b0g x.v k → ¬ b0g y.v k := by
 obtain ⟨hi1, rfl⟩ := List.getElem?_eq_some_iff.1 hi
 obtain ⟨hj1, rfl⟩ := List.getElem?_eq_some_iff.1 hj
 rcases Nat.lt_or_ge i j with k | k
 ·exact List.pairwise_iff_getElem.1 h.sep i j hi1 hj1 k
 ·exact fun b hb hc => List.pairwise_iff_getElem.1 h.sep j i hj1 hi1 ap1 b hc hb
theorem OwS.put {w w' : World} {base : Nat} {X : Nat → Prop} {l : List Ox} (h : OwS w base X l) (i : Nat) {x y : Ox} (hi : l[i]? = some x) (hf : Fr (b0g x.v) w w') (ho : Own w' base y.T y.sz y.v y.n y.L) (hb : y.v.ownBlock = x.v.ownBlock ∨ y.v.ownBlock = some w.heap.size) : OwS w' base X (l.set i y) := by
 obtain ⟨hi1, hi2⟩ := List.getElem?_eq_some_iff.1 hi
 have off : ∀ (z : Ox) (j : Nat), l[j]? = some z → i ≠ j → ∀ k, b0g y.v k → ¬ b0g z.v k := by
  intro z j hj hij k hk hz
  rcases hb with hb | hb
  ·exact h.sepAt hi hj hij k (by unfold b0g at *; rw [← hb]; exact hk) hz
  ·have h3 := ((h.at j hj).lt hz).2
   have h4 : w.heap.size = k := by unfold b0g at hk; rw [hb] at hk; exact Option.some.inj hk
   omega
 refine ⟨?_, ?_, ?_, fun k hk => Nat.lt_of_lt_of_le (h.lt k hk) hf.size⟩
 ·intro z hz
  obtain ⟨j, hj1, hj2⟩ := List.mem_iff_getElem.1 hz
  rw [List.length_set] at hj1
  rw [List.getElem_set] at hj2
  by_cases e : i = j
  ·rw [if_pos e] at hj2; subst hj2; exact ho
  ·rw [if_neg e] at hj2
   subst hj2
   exact (h.own _ (List.getElem_mem hj1)).keep hf fun k hk hs => h.sepAt hi (List.getElem?_eq_getElem hj1) e k hs hk
 ·intro z hz
  obtain ⟨j, hj1, hj2⟩ := List.mem_iff_getElem.1 hz
  rw [List.length_set] at hj1
  rw [List.getElem_set] at hj2
  by_cases e : i = j
  ·rw [if_pos e] at hj2
   subst hj2
   intro k hk hx
   rcases hb with hb | hb
   ·exact h.off x (List.mem_of_getElem? hi) k (by unfold b0g at *; rw [← hb]; exact hk) hx
   ·have h3 := h.lt k hx
    have h4 : w.heap.size = k := by unfold b0g at hk; rw [hb] at hk; exact Option.some.inj hk
    omega
  ·rw [if_neg e] at hj2
   subst hj2
   exact h.off _ (List.getElem_mem hj1)
 ·rw [List.pairwise_iff_getElem]
  intro j k hj hk hjk
  have e := List.pairwise_iff_getElem.1 h.sep j k (by simpa using hj) (by simpa using hk) hjk
  rw [List.getElem_set, List.getElem_set]
  have hj' : j < l.length := by simpa using hj
  have hk' : k < l.length := by simpa using hk
  by_cases e1 : i = j
  ·subst e1
   rw [if_pos rfl, if_neg ap1]
   exact off _ k (List.getElem?_eq_getElem hk') ap1
  ·rw [if_neg e1]
   by_cases e2 : i = k
   ·subst e2
    rw [if_pos rfl]
    exact fun b hb2 hc => off _ j (List.getElem?_eq_getElem hj') e1 b hc hb2
   ·rw [if_neg e2]; exact e
theorem OwS.ne {w : World} {base : Nat} {X : Nat → Prop} {l : List Ox} (h : OwS w base X l) (i : Nat) {x : Ox} (hi : l[i]? = some x) {g : Nat} (hg : X g) : ¬ b0g x.v g := fun hk => h.off x (List.mem_of_getElem? hi) g hk hg
theorem OwS.grow {w w' : World} {base : Nat} {ks : List Nat} {l : List Ox} (h : OwS w base (fun k => k ∈ ks) l) (hf : Fr Nob w w') {g : Nat} (hg : w.heap.size ≤ g) (hlt : g < w'.heap.size) : OwS w' base (fun k => k ∈ g :: ks) l := by
 have h2 := h.still hf
 refine ⟨h2.own, fun x hx k hk hks => ?_, h2.sep, fun k hk => ?_⟩
 ·rcases List.mem_cons.1 hks with e | e
  ·subst e
   have := ((h.own x hx).lt hk).2
   omega
  ·exact h2.off x hx k hk e
 ·rcases List.mem_cons.1 hk with e | e
  ·subst e; exact hlt
  ·exact h2.lt k e
theorem OwS.mono {w : World} {base : Nat} {X Y : Nat → Prop} {l : List Ox} (h : OwS w base X l) (hs : ∀ k, Y k → X k) : OwS w base Y l :=
 ⟨h.own, fun x hx k hk hy => h.off x hx k hk (hs k hy), h.sep, fun k hk => h.lt k (hs k hk)⟩
theorem OwS.less {w : World} {base : Nat} {X : Nat → Prop} {l l' : List Ox} (h : OwS w base X l) (hs : l'.Sublist l) : OwS w base X l' :=
 ⟨fun x hx => h.own x (hs.subset hx), fun x hx => h.off x (hs.subset hx), h.sep.sublist hs, h.lt⟩
theorem St.keepOs {S : Nat → Prop} {w0 w w' : World} {bl : List (Nat × List Value × TypeId)} (h : St S w0 w bl) {T : TypeId} {sz base : Nat} {v : Value} {n : Nat} {L : List Value} (ho : Own w base T sz v n L) (hb : w0.heap.size ≤ base) (hf : Fr (b0g v) w w') (hne : ∀ x ∈ bl, ¬ b0g v x.1) : St S w0 w' bl :=
 ⟨ho.fr h.fr hb hf, h.own, fun x hx => (h.has x hx).keep hf (hne x hx), h.ne⟩
theorem l0J (B : List Value) (o k : Nat) (cs : List Value) (h : o + k + cs.length ≤ B.length) : (splice B (o + k) cs).drop o = splice (B.drop o) k cs := by
 unfold splice
 have h1 : (B.take (o + k)).drop o = (B.drop o).take k := by rw [List.drop_take]; congr 1; omega
 rw [List.drop_append_of_le_length (by simp; omega), h1, List.drop_drop]
 congr 2
 congr 1
 omega
theorem k0e (B : List Value) (k m : Nat) (cs : List Value) (h : k + cs.length ≤ m) (hm : m ≤ B.length) : (splice B k cs).take m = splice (B.take m) k cs := by
 apply List.ext_getElem?
 intro i
 unfold splice
 have e1 : min k B.length = k := by omega
 have e2 : min k (min m B.length) = k := by omega
 simp only [List.getElem?_take, List.getElem?_append, List.length_take, List.getElem?_drop, e1, e2]
 by_cases h1 : i < m
 ·by_cases h3 : i < k
  ·simp only [h1, h3, if_true]
  ·by_cases h2 : i - k < cs.length
   ·simp only [h1, h3, h2, if_true, if_false]
   ·have h4 : k + cs.length + (i - k - cs.length) < m := by omega
    simp only [h1, h3, h2, h4, if_true, if_false]
 ·have h3 : ¬ i < k := by omega
  have h2 : ¬ i - k < cs.length := by omega
  have h4 : ¬ k + cs.length + (i - k - cs.length) < m := by omega
  simp only [h1, h3, h2, h4, if_false]
theorem Own.wrote {w w' : World} {base : Nat} {T : TypeId} {sz : Nat} {g o n cap : Nat} {L : List Value} (h : Own w base T sz (.slice (some ⟨g, o, none⟩) n cap) n L) {k : Nat} {cs : List Value} (hk : k + cs.length ≤ n * sz)
  (hw : ∀ B, Has w g B T → Has w' g (splice B (o + k) cs) T) : Own w' base T sz (.slice (some ⟨g, o, none⟩) n cap) n (splice L k cs) := by
 refine ⟨by rw [length_splice _ _ _ (by rw [h.1]; exact hk)]; exact h.1, .inr ?_⟩
 rcases h.2 with ⟨h2, -⟩ | ⟨g', o', cap', B, h2, hb, hh, hn, hm, hl, ht⟩
 ·cases h2
 ·cases h2
  have hle : n * sz ≤ cap * sz := Nat.mul_le_mul_right _ hn
  refine ⟨g, o, cap, _, rfl, hb, hw B hh, hn, hm, by rw [length_splice _ _ _ ap1]; exact hl, ?_⟩
  rw [l0J _ _ _ _ ap1, k0e _ _ _ _ hk (by simp; omega), ht]
section
variable {w : World} {ops : Array Oper} {rest : List Oper} {o : Oper} {a : Act} {Q : Exit → Act → World → Prop} {base : Nat} {X : Nat → Prop} {l : List Ox}
theorem o0e (hos : OwS w base X l) (i : Nat) {v : Value} {e : TypeId} {sz n : Nat} {L : List Value} (hi : l[i]? = some ⟨v, e, sz, n, L⟩) {s x : Operand} {t : TypeId} (hgd : o.guard = none) (ho : o.op = .call { callee := .builtin .append, args := #[s, x], argTypes := #[t, t] })
  {z : Value} {by_ : Nat} (ht : P.underlying t = some (.slice e)) (hi0 : (P.info? e).map (fun i => (i.zero, i.size, i.bytes)) = some (some z, sz, by_)) (hzs : z.cells.size = sz) (hsz : 0 < sz) (hs : a.eval s = v)
  {xa : Option Addr} {m c : Nat} {news : List Value} (hx : a.eval x = .slice xa m c) (hnews : Rd w xa (m * sz) news) (h1 : ∀ u ∈ news, u.oneCell' = true)
  (h63 : n + m ≤ maxLen) (hbytes : (n + m) * by_ ≤ 140737488355328) (hbase : base ≤ w.heap.size)
  (h : ∀ v' w', OwS w' base X (l.set i ⟨v', e, sz, n + m, L ++ news⟩) → Fr (b0g v) w w' → wpList P ops Q rest (a.put o.dst v') w') : wpList P ops Q (o :: rest) a w :=
 c0p hgd ho ht hi0 hzs hsz (hos.at i hi) hs hx hnews h1 h63 hbytes hbase fun v' w' h2 h3 h4 => h v' w' (hos.put i hi h3 h2 h4) h3
end
section
variable {w : World} {o : Oper} {a : Act} {K : Act → World → Prop} {Q : Exit → Act → World → Prop} {base : Nat} {X : Nat → Prop} {l : List Ox}
end
end Go.Mv
namespace Go.Mv
open Go.RowKit
section
variable {P : Program} {ops : Array Oper} {md : Region.Mode} {Q : Exit → Act → World → Prop} {S : World → Prop} {m : Nat}
def wpP (P : Program) (md : Region.Mode) (ops : Array Oper) (Q : Exit → Act → World → Prop) (S : World → Prop) (m : Nat) : Nat → Array Bool → Act → World → Prop
 | 0, listed, a, w => Region.ready md ops listed = [] ∧ Q .normal a w
 | f + 1, listed, a, w => (Region.ready md ops listed = [] → Q .normal a w) ∧
  ∀ i ∈ Region.ready md ops listed, wpOp P ops Q i (fun a' w' => (listed.getD m true = false → i ≠ m → S w') ∧ wpP P md ops Q S m f (listed.setIfInBounds i true) a' w') a w
theorem d0A : ∀ (f : Nat) (listed : Array Bool) (a : Act) (w : World), wpP P md ops Q S m f listed a w → wpAny P md ops Q f listed a w
 | 0, _, _, _, h => h
 | f + 1, _, _, _, h => ⟨h.1, fun i hi => wpOp_mono (fun a' w' h' => d0A f _ a' w' h'.2) (h.2 i hi)⟩
structure Cl (md : Region.Mode) (ops : Array Oper) (listed : Array Bool) : Prop where
 size : listed.size = ops.size
 closed : ∀ j oj, ops[j]? = some oj → listed.getD j false = true → ∀ e ∈ oj.after, Region.binds md e = true → listed.getD e.on false = true
theorem Cl.set {i : Nat} {listed : Array Bool} (inv : Cl md ops listed) (hi : i ∈ Region.ready md ops listed) : Cl md ops (listed.setIfInBounds i true) := by
 obtain ⟨_, oi, hoi, hall⟩ := mem_ready.1 hi
 refine ⟨by simp [inv.size], fun j oj hj hl e he hb => ?_⟩
 by_cases hij : i = j
 ·subst hij
  have : oj = oi := Option.some.inj (hj.symm.trans hoi)
  subst this
  exact getD_set_true (hall e he hb)
 ·rw [getD_set_ne false hij] at hl
  exact getD_set_true (inv.closed j oj hj hl e he hb)
def x0N (md : Region.Mode) (ops : Array Oper) (m : Nat) : Nat → Nat → Bool
 | 0, _ => false
 | f + 1, i => (List.range ops.size).any fun j => Region.waitsFor md ops j i && (decide (j = m) || x0N md ops m f j)
theorem k0f {listed : Array Bool} (inv : Cl md ops listed) : ∀ (f i : Nat), x0N md ops m f i = true → listed.getD i true = false → m ∉ Region.ready md ops listed
 | 0, i, h, _ => by cases h
 | f + 1, i, h, hun => by
  intro hr
  obtain ⟨j, hj, hj2⟩ := List.any_eq_true.1 h
  simp only [Bool.and_eq_true, Bool.or_eq_true, decide_eq_true_eq] at hj2
  obtain ⟨oj, hoj, e, he, hb, hon⟩ := Region.waitsFor_spec hj2.1
  rcases hj2.2 with rfl | hja
  ·obtain ⟨-, om, hom, hall⟩ := mem_ready.1 hr
   have : oj = om := Option.some.inj (hoj.symm.trans hom)
   subst this
   have h2 := hall e he hb
   rw [hon, getD_both hun] at h2
   cases h2
  ·cases hl : listed.getD j false with
   | true =>
    have h2 := inv.closed j oj hoj hl e he hb
    rw [hon, getD_both hun] at h2
    cases h2
   | false =>
    have hjs : j < listed.size := by rw [inv.size]; exact (Array.getElem?_eq_some_iff.1 hoj).1
    exact k0f inv f j hja (getD_in hjs hl) hr
theorem g0Z {i : Nat} {oi : Oper} {v : Value} (hi : ops[i]? = some oi) (hsel : ∀ (j : Nat) (o : Oper) cs b, ops[j]? = some o → o.op ≠ .select cs b)
  (hQ : ∀ c a w, Q (.panic c) (a.put oi.dst v) w → Q (.panic c) a w) (him : i ≠ m) (hm : m < ops.size) :
  ∀ (f : Nat) (listed : Array Bool) (a : Act) (w : World), Cl md ops listed →
   (∀ j oj, ops[j]? = some oj → j ≠ i → listed.getD j true = false → (∀ e ∈ oj.after, Region.binds md e = true → e.on ≠ i) → oi.apart ops oj = true) →
   i ∈ Region.ready md ops listed → YieldsIf P ops (fun _ => True) oi v a → (listed.getD m true = false → S w) →
   wpP P md ops Q S m f (listed.setIfInBounds i true) (a.put oi.dst v) w → wpP P md ops Q S m (f + 1) listed a w := by
 intro f
 induction f with
 | zero =>
  intro listed a w inv _ hr hy hS H
  refine ⟨fun h => (by rw [h] at hr; cases hr), fun j hj => ?_⟩
  by_cases hji : j = i
  ·subst hji; exact hy.wpOp hi trivial ⟨fun h _ => hS h, H⟩
  ·have := ready_mono hj hji
   rw [H.1] at this
   cases this
 | succ f ih =>
  intro listed a w inv hfree hr hy hS H
  have hun := (mem_ready.1 hr).1
  refine ⟨fun h => (by rw [h] at hr; cases hr), fun j hj => ?_⟩
  by_cases hji : j = i
  ·subst hji; exact hy.wpOp hi trivial ⟨fun h _ => hS h, H⟩
  ·have h1 := H.2 j (ready_mono hj hji)
   obtain ⟨hjun, oj, hoj, hall⟩ := mem_ready.1 hj
   have hnot : ∀ e ∈ oj.after, Region.binds md e = true → e.on ≠ i := fun e he hb heq => by
    have h1 := hall e he hb
    rw [heq, getD_both hun] at h1
    cases h1
   have h2 := wpOp_putIf hoj (hfree j oj hoj hji hjun hnot) (fun cs b => hsel i oi cs b hi) (fun cs b => hsel j oj cs b hoj) hQ hy h1
   have hfree' : ∀ k ok, ops[k]? = some ok → k ≠ i → (listed.setIfInBounds j true).getD k true = false →
     (∀ e ∈ ok.after, Region.binds md e = true → e.on ≠ i) → oi.apart ops ok = true := fun k ok hk hki hun hno => by
    refine hfree k ok hk hki ?_ hno
    by_cases hjk : j = k
    ·subst hjk; exact hjun
    ·rw [getD_set_ne true hjk] at hun; exact hun
   refine wpOp_mono (fun a' w' h3 => ?_) h2
   have hS' : listed.getD m true = false → j ≠ m → S w' := fun hml hjm => h3.2.1 (by rw [getD_set_ne true him]; exact hml) hjm
   refine ⟨hS', ih (listed.setIfInBounds j true) a' w' (inv.set hj) hfree' (ready_mono hr (Ne.symm hji)) h3.1 (fun hml => ?_) ?_⟩
   ·by_cases hjm : j = m
    ·subst hjm
     have : (listed.setIfInBounds j true).getD j true = true := by
      have hs : j < listed.size := by rw [inv.size]; exact hm
      simp [hs]
     rw [this] at hml; cases hml
    ·exact hS' (by rwa [getD_set_ne true hjm] at hml) hjm
   ·rw [Array.setIfInBounds_comm _ _ hji]
    exact h3.2.2
theorem h0a {i af : Nat} {oi : Oper} {v : Value} (hi : ops[i]? = some oi) (hsel : ∀ (j : Nat) (o : Oper) cs b, ops[j]? = some o → o.op ≠ .select cs b)
  (hQ : ∀ c a w, Q (.panic c) (a.put oi.dst v) w → Q (.panic c) a w) (him : i ≠ m) (hanc : x0N md ops m af i = true) :
  ∀ (f : Nat) (listed : Array Bool) (a : Act) (w : World), Cl md ops listed → listed.getD m true = false →
   (∀ j oj, ops[j]? = some oj → j ≠ i → listed.getD j true = false → (∀ e ∈ oj.after, Region.binds md e = true → e.on ≠ i) → oi.apart ops oj = true) →
   i ∈ Region.ready md ops listed → YieldsIf P ops S oi v a → S w →
   wpP P md ops Q S m f (listed.setIfInBounds i true) (a.put oi.dst v) w → wpP P md ops Q S m (f + 1) listed a w := by
 intro f
 induction f with
 | zero =>
  intro listed a w inv _ _ hr hy hS H
  refine ⟨fun h => (by rw [h] at hr; cases hr), fun j hj => ?_⟩
  by_cases hji : j = i
  ·subst hji; exact hy.wpOp hi hS ⟨fun _ _ => hS, H⟩
  ·have := ready_mono hj hji
   rw [H.1] at this
   cases this
 | succ f ih =>
  intro listed a w inv hml hfree hr hy hS H
  have hun := (mem_ready.1 hr).1
  refine ⟨fun h => (by rw [h] at hr; cases hr), fun j hj => ?_⟩
  by_cases hji : j = i
  ·subst hji; exact hy.wpOp hi hS ⟨fun _ _ => hS, H⟩
  ·have hjm : j ≠ m := fun e => k0f inv af i hanc hun (e ▸ hj)
   have h1 := H.2 j (ready_mono hj hji)
   obtain ⟨hjun, oj, hoj, hall⟩ := mem_ready.1 hj
   have hnot : ∀ e ∈ oj.after, Region.binds md e = true → e.on ≠ i := fun e he hb heq => by
    have h1 := hall e he hb
    rw [heq, getD_both hun] at h1
    cases h1
   have h2 := wpOp_putIf hoj (hfree j oj hoj hji hjun hnot) (fun cs b => hsel i oi cs b hi) (fun cs b => hsel j oj cs b hoj) hQ hy h1
   have hfree' : ∀ k ok, ops[k]? = some ok → k ≠ i → (listed.setIfInBounds j true).getD k true = false →
     (∀ e ∈ ok.after, Region.binds md e = true → e.on ≠ i) → oi.apart ops ok = true := fun k ok hk hki hun hno => by
    refine hfree k ok hk hki ?_ hno
    by_cases hjk : j = k
    ·subst hjk; exact hjun
    ·rw [getD_set_ne true hjk] at hun; exact hun
   refine wpOp_mono (fun a' w' h3 => ?_) h2
   have hS' : S w' := h3.2.1 (by rw [getD_set_ne true him]; exact hml) hjm
   refine ⟨fun _ _ => hS', ih (listed.setIfInBounds j true) a' w' (inv.set hj) (by rw [getD_set_ne true hjm]; exact hml) hfree' (ready_mono hr (Ne.symm hji)) h3.1 hS' ?_⟩
   rw [Array.setIfInBounds_comm _ _ hji]
   exact h3.2.2
inductive Pl where
 | nil
 | w (i : Nat) (s : Pl)
 | t (i : Nat) (s : Pl)
 | r (i : Nat) (s : Pl)
 | m (i : Nat) (s : Pl)
 | b (i j : Nat) (s u : Pl)
 | c (i j k : Nat) (s u v : Pl)
def Pl.len : Pl → Nat
 | .nil => 0
 | .w _ s => s.len + 1
 | .t _ s => s.len + 1
 | .r _ s => s.len + 1
 | .m _ s => s.len + 1
 | .b _ _ s _ => s.len + 1
 | .c _ _ _ s _ _ => s.len + 1
def b0r (P : Program) (ops : Array Oper) (Q : Exit → Act → World → Prop) (S : World → Prop) : Pl → Act → World → Prop
 | .nil, a, w => Q .normal a w
 | .w i s, a, w => ∃ o v, ops[i]? = some o ∧ YieldsIf P ops (fun _ => True) o v a ∧ b0r P ops Q S s (a.put o.dst v) w
 | .t i s, a, w => ∃ o v, ops[i]? = some o ∧ YieldsIf P ops S o v a ∧ b0r P ops Q S s (a.put o.dst v) w
 | .r i s, a, w => ∃ o, ops[i]? = some o ∧ o.guard = none ∧ o.wp P a w (fun a' w' => S w' ∧ b0r P ops Q S s a' w') Q
 | .m i s, a, w => ∃ o, ops[i]? = some o ∧ o.guard = none ∧ o.wp P a w (fun a' w' => b0r P ops Q S s a' w') Q
 | .b i j s u, a, w => (∃ o, ops[i]? = some o ∧ o.guard = none ∧ o.wp P a w (fun a' w' => S w' ∧ b0r P ops Q S s a' w') Q) ∧
   (∃ o, ops[j]? = some o ∧ o.guard = none ∧ o.wp P a w (fun a' w' => S w' ∧ b0r P ops Q S u a' w') Q)
 | .c i j k s u v, a, w => (∃ o, ops[i]? = some o ∧ o.guard = none ∧ o.wp P a w (fun a' w' => S w' ∧ b0r P ops Q S s a' w') Q) ∧
   (∃ o, ops[j]? = some o ∧ o.guard = none ∧ o.wp P a w (fun a' w' => S w' ∧ b0r P ops Q S u a' w') Q) ∧
   (∃ o, ops[k]? = some o ∧ o.guard = none ∧ o.wp P a w (fun a' w' => S w' ∧ b0r P ops Q S v a' w') Q)
def b0K (md : Region.Mode) (ops : Array Oper) (m : Nat) : Pl → Array Bool → Bool
 | .nil, listed => (Region.ready md ops listed).isEmpty
 | .w i s, listed => decide (i ≠ m) && (Region.ready md ops listed).contains i && Region.free md ops listed i && b0K md ops m s (listed.setIfInBounds i true)
 | .t i s, listed => decide (i ≠ m) && decide (listed.getD m true = false) && (Region.ready md ops listed).contains i && Region.free md ops listed i && x0N md ops m ops.size i && b0K md ops m s (listed.setIfInBounds i true)
 | .r i s, listed => decide (i ≠ m) && decide (listed.getD m true = false) && decide (Region.ready md ops listed = [i]) && b0K md ops m s (listed.setIfInBounds i true)
 | .m i s, listed => (decide (i = m) || decide (listed.getD m true = true)) && decide (Region.ready md ops listed = [i]) && b0K md ops m s (listed.setIfInBounds i true)
 | .b i j s u, listed => decide (i ≠ m) && decide (j ≠ m) && decide (listed.getD m true = false) && decide (s.len = u.len) && decide (Region.ready md ops listed = [i, j]) && b0K md ops m s (listed.setIfInBounds i true) && b0K md ops m u (listed.setIfInBounds j true)
 | .c i j k s u v, listed => decide (i ≠ m) && decide (j ≠ m) && decide (k ≠ m) && decide (listed.getD m true = false) && decide (s.len = u.len) && decide (s.len = v.len) && decide (Region.ready md ops listed = [i, j, k]) && b0K md ops m s (listed.setIfInBounds i true) && b0K md ops m u (listed.setIfInBounds j true) && b0K md ops m v (listed.setIfInBounds k true)
theorem c0W {i : Nat} {o : Oper} {a : Act} {w : World} {K : Act → World → Prop} (ho : ops[i]? = some o) (hg : o.guard = none) (h : o.wp P a w K Q) : wpOp P ops Q i K a w := by
 unfold wpOp
 simp only [ho]
 rw [if_pos (by simp [Region.wanted, hg])]
 exact .inl h
theorem b0x {listed : Array Bool} {i : Nat} (h : i < listed.size) : (listed.setIfInBounds i true).getD i true = true := by simp [h]
theorem b0h (hsel : Region.noSelect ops = true) (hm : m < ops.size) (hQ : ∀ c (d : Option Tmp) v a w, Q (.panic c) (Act.put a d v) w → Q (.panic c) a w) :
  ∀ (s : Pl) (listed : Array Bool) (a : Act) (w : World), Cl md ops listed → b0K md ops m s listed = true → (listed.getD m true = false → S w) → b0r P ops Q S s a w → wpP P md ops Q S m s.len listed a w
 | .nil, listed, a, w, _, hB, _, h => ⟨by simpa [b0K] using hB, h⟩
 | .w i r, listed, a, w, inv, hB, hS, h => by
  obtain ⟨o, v, ho, hy, hK⟩ := h
  simp only [b0K, Bool.and_eq_true, decide_eq_true_eq] at hB
  obtain ⟨⟨⟨him, hr⟩, hf⟩, hB'⟩ := hB
  have hr' : i ∈ Region.ready md ops listed := by simpa using hr
  exact g0Z ho (Region.noSelect_spec hsel) (fun c a w => hQ c o.dst v a w) him hm r.len listed a w inv (Region.free_spec ho hf) hr' hy hS
   (b0h hsel hm hQ r _ _ w (inv.set hr') hB' (fun h => hS (by rwa [getD_set_ne true him] at h)) hK)
 | .t i r, listed, a, w, inv, hB, hS, h => by
  obtain ⟨o, v, ho, hy, hK⟩ := h
  simp only [b0K, Bool.and_eq_true, decide_eq_true_eq] at hB
  obtain ⟨⟨⟨⟨⟨him, hml⟩, hr⟩, hf⟩, han⟩, hB'⟩ := hB
  have hr' : i ∈ Region.ready md ops listed := by simpa using hr
  exact h0a ho (Region.noSelect_spec hsel) (fun c a w => hQ c o.dst v a w) him han r.len listed a w inv hml (Region.free_spec ho hf) hr' hy (hS hml)
   (b0h hsel hm hQ r _ _ w (inv.set hr') hB' (fun _ => hS hml) hK)
 | .r i r, listed, a, w, inv, hB, hS, h => by
  obtain ⟨o, ho, hg, hK⟩ := h
  simp only [b0K, Bool.and_eq_true, decide_eq_true_eq] at hB
  obtain ⟨⟨⟨him, hml⟩, hr⟩, hB'⟩ := hB
  have hr' : i ∈ Region.ready md ops listed := by rw [hr]; simp
  refine ⟨fun h0 => (by rw [hr] at h0; cases h0), fun j hj => ?_⟩
  rw [hr] at hj
  have hj' : j = i := by simpa using hj
  subst hj'
  exact c0W ho hg (Oper.wp_mono (fun a' w' h' => ⟨fun _ _ => h'.1, b0h hsel hm hQ r _ a' w' (inv.set hr') hB' (fun _ => h'.1) h'.2⟩) hK)
 | .m i r, listed, a, w, inv, hB, hS, h => by
  obtain ⟨o, ho, hg, hK⟩ := h
  simp only [b0K, Bool.and_eq_true, Bool.or_eq_true, decide_eq_true_eq] at hB
  obtain ⟨⟨him, hr⟩, hB'⟩ := hB
  have hr' : i ∈ Region.ready md ops listed := by rw [hr]; simp
  refine ⟨fun h0 => (by rw [hr] at h0; cases h0), fun j hj => ?_⟩
  rw [hr] at hj
  have hj' : j = i := by simpa using hj
  subst hj'
  have hml : (listed.setIfInBounds j true).getD m true = true := by
   rcases him with e | e
   ·subst e; exact b0x (by rw [inv.size]; exact hm)
   ·by_cases e2 : j = m
    ·subst e2; exact b0x (by rw [inv.size]; exact hm)
    ·rw [getD_set_ne true e2]; exact e
  refine c0W ho hg (Oper.wp_mono (fun a' w' h' => ⟨fun h1 h2 => ?_, b0h hsel hm hQ r _ a' w' (inv.set hr') hB' (fun h1 => by rw [hml] at h1; cases h1) h'⟩) hK)
  rcases him with e | e
  ·exact absurd e h2
  ·rw [e] at h1; cases h1
 | .b i j r u, listed, a, w, inv, hB, hS, h => by
  obtain ⟨⟨o, ho, hg, hK⟩, ⟨o2, ho2, hg2, hK2⟩⟩ := h
  simp only [b0K, Bool.and_eq_true, decide_eq_true_eq] at hB
  obtain ⟨⟨⟨⟨⟨⟨him, hjm⟩, hml⟩, hlen⟩, hr⟩, hB1⟩, hB2⟩ := hB
  have hri : i ∈ Region.ready md ops listed := by rw [hr]; simp
  have hrj : j ∈ Region.ready md ops listed := by rw [hr]; simp
  refine ⟨fun h0 => (by rw [hr] at h0; cases h0), fun k hk => ?_⟩
  rw [hr] at hk
  have hk' : k = i ∨ k = j := by simpa using hk
  rcases hk' with e | e
  ·subst e
   exact c0W ho hg (Oper.wp_mono (fun a' w' h' => ⟨fun _ _ => h'.1, b0h hsel hm hQ r _ a' w' (inv.set hri) hB1 (fun _ => h'.1) h'.2⟩) hK)
  ·subst e
   rw [hlen]
   exact c0W ho2 hg2 (Oper.wp_mono (fun a' w' h' => ⟨fun _ _ => h'.1, b0h hsel hm hQ u _ a' w' (inv.set hrj) hB2 (fun _ => h'.1) h'.2⟩) hK2)
 | .c i j k r u v, listed, a, w, inv, hB, hS, h => by
  obtain ⟨⟨o, ho, hg, hK⟩, ⟨o2, ho2, hg2, hK2⟩, ⟨o3, ho3, hg3, hK3⟩⟩ := h
  simp only [b0K, Bool.and_eq_true, decide_eq_true_eq] at hB
  obtain ⟨⟨⟨⟨⟨⟨⟨⟨⟨him, hjm⟩, hkm⟩, hml⟩, hlen⟩, hlen2⟩, hr⟩, hB1⟩, hB2⟩, hB3⟩ := hB
  have hri : i ∈ Region.ready md ops listed := by rw [hr]; simp
  have hrj : j ∈ Region.ready md ops listed := by rw [hr]; simp
  have hrk : k ∈ Region.ready md ops listed := by rw [hr]; simp
  refine ⟨fun h0 => (by rw [hr] at h0; cases h0), fun q hk => ?_⟩
  rw [hr] at hk
  have hk' : q = i ∨ q = j ∨ q = k := by simpa using hk
  rcases hk' with e | e | e
  ·subst e
   exact c0W ho hg (Oper.wp_mono (fun a' w' h' => ⟨fun _ _ => h'.1, b0h hsel hm hQ r _ a' w' (inv.set hri) hB1 (fun _ => h'.1) h'.2⟩) hK)
  ·subst e
   show wpOp P ops Q _ (fun a' w' => _ ∧ wpP P md ops Q S m r.len _ a' w') a w
   rw [hlen]
   exact c0W ho2 hg2 (Oper.wp_mono (fun a' w' h' => ⟨fun _ _ => h'.1, b0h hsel hm hQ u _ a' w' (inv.set hrj) hB2 (fun _ => h'.1) h'.2⟩) hK2)
  ·subst e
   show wpOp P ops Q _ (fun a' w' => _ ∧ wpP P md ops Q S m r.len _ a' w') a w
   rw [hlen2]
   exact c0W ho3 hg3 (Oper.wp_mono (fun a' w' h' => ⟨fun _ _ => h'.1, b0h hsel hm hQ v _ a' w' (inv.set hrk) hB3 (fun _ => h'.1) h'.2⟩) hK3)
def i0X (ops : Array Oper) (m : Nat) (s : Pl) : Bool :=
 Region.noSelect ops && decide (m < ops.size) && decide (s.len = ops.size) && b0K .any ops m s (Array.replicate ops.size false)
theorem a0d {id : Nat} {a : Act} {w : World} {l : List Oper} (S : World → Prop) (m : Nat) (s : Pl) (hm : P.follows .mixedOrders = true) (hB : i0X l.toArray m s = true)
  (hS : S w.drew) (hQ : ∀ c (d : Option Tmp) v a w, Q (.panic c) (Act.put a d v) w → Q (.panic c) a w)
  (h : b0r P l.toArray Q S s a w.drew) : (Code.region id l.toArray true).wp P Q a w := by
 simp only [i0X, Bool.and_eq_true, decide_eq_true_eq] at hB
 obtain ⟨⟨⟨hsel, hms⟩, hlen⟩, hseq⟩ := hB
 have inv0 : Cl .any l.toArray (Array.replicate l.toArray.size false) :=
  ⟨by simp, fun j oj _ hl => (by rw [getD_replicate_false] at hl; cases hl)⟩
 have H := b0h (md := .any) hsel hms hQ s _ a w.drew inv0 hseq (fun _ => hS) h
 rw [hlen] at H
 exact wp_region_any hm (d0A _ _ _ _ H)
variable {l : List Oper} {i j : Nat} {s u : Pl} {a : Act} {w : World} {o o2 : Oper}
theorem a0e (h : Q .normal a w) : b0r P ops Q S .nil a w := h
theorem a0a (ho : l[i]? = some o) (hg : o.guard = none) {v : Value} (hv : ∀ wx, (execOp a.eval o).run P wx = .ok (.value v) wx) (h : b0r P l.toArray Q S s (a.put o.dst v) w) : b0r P l.toArray Q S (.w i s) a w :=
 ⟨o, v, by simpa using ho, .inl ⟨by simp [Region.wanted, hg], fun wx _ => hv wx⟩, h⟩
theorem a0L (ho : l[i]? = some o) (hg : o.guard = none) {v : Value} (hv : ∀ wx, S wx → (execOp a.eval o).run P wx = .ok (.value v) wx) (h : b0r P l.toArray Q S s (a.put o.dst v) w) : b0r P l.toArray Q S (.t i s) a w :=
 ⟨o, v, by simpa using ho, .inl ⟨by simp [Region.wanted, hg], hv⟩, h⟩
theorem a0h (ho : l[i]? = some o) (hg : o.guard = none) {ty : TypeId} {x : Operand} (hop : o.op = .load ty x) {g p : Nat} (hx : a.eval x = .pointer (some ⟨g, p, none⟩)) (cs : List Value) (hS : ∀ wx, S wx → wx.rangeAt g p cs)
  {d : TypeDesc} (hu : P.underlying ty = some d) (hd : d.isRow = true) (hi : (P.info? ty).map (·.size) = some cs.length) (h : b0r P l.toArray Q S s (a.put o.dst (.agg cs.toArray)) w) : b0r P l.toArray Q S (.t i s) a w :=
 ⟨o, _, by simpa using ho, yieldsIf_load_mid (by simp [Region.wanted, hg]) ty x hop g p hx cs d hS hu hd hi, h⟩
theorem a0q (ho : l[i]? = some o) (hg : o.guard = none) (h : o.wp P a w (fun a' w' => S w' ∧ b0r P l.toArray Q S s a' w') Q) : b0r P l.toArray Q S (.r i s) a w :=
 ⟨o, by simpa using ho, hg, h⟩
theorem a0o (ho : l[i]? = some o) (hg : o.guard = none) (h : o.wp P a w (fun a' w' => b0r P l.toArray Q S s a' w') Q) : b0r P l.toArray Q S (.m i s) a w :=
 ⟨o, by simpa using ho, hg, h⟩
theorem x0O {C F : Nat → World → Prop} (ho : l[i]? = some o) (hg : o.guard = none) (ho2 : l[j]? = some o2) (hg2 : o2.guard = none)
  (h1 : (∀ g w', C g w' → F g w') → o.wp P a w (fun a' w' => S w' ∧ b0r P l.toArray Q S s a' w') Q)
  (h2 : (∀ g w', C g w' → F g w') → o2.wp P a w (fun a' w' => S w' ∧ b0r P l.toArray Q S u a' w') Q)
  (h : ∀ g w', C g w' → F g w') : b0r P l.toArray Q S (.b i j s u) a w :=
 ⟨⟨o, by simpa using ho, hg, h1 h⟩, ⟨o2, by simpa using ho2, hg2, h2 h⟩⟩
theorem e0i {G : Prop} {C F : Nat → World → Prop} (h1 : (∀ g w', C g w' → F g w') → G) (h : ∀ g w', C g w' → F g w') : G := h1 h
theorem c0C (ho : l[i]? = some o) (hg : o.guard = none) (ho2 : l[j]? = some o2) (hg2 : o2.guard = none)
  (h1 : o.wp P a w (fun a' w' => S w' ∧ b0r P l.toArray Q S s a' w') Q)
  (h2 : o2.wp P a w (fun a' w' => S w' ∧ b0r P l.toArray Q S u a' w') Q) : b0r P l.toArray Q S (.b i j s u) a w :=
 ⟨⟨o, by simpa using ho, hg, h1⟩, ⟨o2, by simpa using ho2, hg2, h2⟩⟩
end
end Go.Mv
namespace Go.Mv
open Go.RowKit
end Go.Mv
