/- ; ; ; ; ; ; ; ; ; ; ; ; ; ; ; ; ; ; ; ; . -/
import Derived.WalkKit
import Derived.WalkLawsBesides
import Derived.WalkSpells
import Derived.Lib.Hide
import Derived.Laws.CopyOwn
import Derived.Deep.QuietTactic
import Derived.BigQuiet
import Derived.StillTailTactics
import Derived.Deep.RegionHeld3
import Derived.Deep.RegionWith
import Derived.Deep.DeepFit
import Derived.Test.YtemcankmggmgoaaGreatProg
import Derived.KernelRfl
import Derived.Deep.MidRow
set_option maxHeartbeats 16000000
set_option maxRecDepth 1000000

namespace Go.Mv
open Go.RowKit
structure Fr (S : Nat → Prop) (w w' : World) : Prop where
 os : w'.os = w.os
 tape : w'.tape = w.tape
 output : w'.output = w.output
 size : w.heap.size ≤ w'.heap.size
 block : ∀ k, k < w.heap.size → ¬ S k → w'.heap[k]? = w.heap[k]?
def Nob : Nat → Prop := fun _ => False
def One (g : Nat) : Nat → Prop := fun k => k = g
theorem Fr.refl (S : Nat → Prop) (w : World) : Fr S w w := ⟨rfl, rfl, rfl, Nat.le_refl _, fun _ _ _ => rfl⟩
theorem Fr.trans {S T : Nat → Prop} {a b c : World} (h : Fr S a b) (k : Fr T b c) (hT : ∀ i, i < a.heap.size → T i → S i) : Fr S a c :=
 ⟨k.os.trans h.os, k.tape.trans h.tape, k.output.trans h.output, Nat.le_trans h.size k.size,
  fun i hi hs => (k.block i (Nat.lt_of_lt_of_le hi h.size) (fun t => hs (hT i hi t))).trans (h.block i hi hs)⟩
theorem Fr.mono {S T : Nat → Prop} {a b : World} (h : Fr S a b) (hT : ∀ i, i < a.heap.size → S i → T i) : Fr T a b :=
 ⟨h.os, h.tape, h.output, h.size, fun i hi hs => h.block i hi (fun t => hs (hT i hi t))⟩
theorem Fr.then {a b c : World} (h : Fr Nob a b) (k : Fr Nob b c) : Fr Nob a c := h.trans k (fun _ _ t => t)
theorem Fr.new {S : Nat → Prop} {g : Nat} {a b c : World} (h : Fr S a b) (k : Fr (One g) b c) (hg : a.heap.size ≤ g) : Fr S a c :=
 h.trans k (fun i hi t => by have : i = g := t; omega)
theorem Fr.same {S : Nat → Prop} {a b c : World} (h : Fr S a b) (k : Fr Nob b c) : Fr S a c := h.trans k (fun _ _ t => t.elim)
theorem Fr.drew {S : Nat → Prop} {a b : World} (h : Fr S a b) : Fr S a b.drew := ⟨h.os, h.tape, h.output, h.size, h.block⟩
theorem Fr.drewN {S : Nat → Prop} {a b : World} (h : Fr S a b) (n : Nat) : Fr S a (b.drewN n) := ⟨h.os, h.tape, h.output, h.size, h.block⟩
theorem Fr.alloc {S : Nat → Prop} {a b : World} (h : Fr S a b) (o : Obj) : Fr S a (b.alloc o) :=
 h.trans (T := Nob) ⟨rfl, rfl, rfl, by simp, fun k hk _ => Below.heap_alloc b o k hk⟩ (fun _ _ t => t.elim)
theorem Fr.setCell {S : Nat → Prop} {a b : World} (h : Fr S a b) (g i : Nat) (s : Option Nat) (u : Value) (hg : g < a.heap.size → S g) : Fr S a (b.setCell ⟨g, i, s⟩ u) :=
 h.trans (T := One g) ⟨rfl, rfl, rfl, by simp [World.setCell], fun k _ hk => heap_setCell_other b _ k u hk⟩ (fun i hi t => by have e : i = g := t; subst e; exact hg hi)
theorem Fr.below {a b : World} (h : Fr Nob a b) : Below a.heap.size a b := ⟨h.os, h.tape, h.output, h.size, fun k hk => h.block k hk id⟩
theorem Fr.ofBelow {a b : World} (h : Below a.heap.size a b) : Fr Nob a b := ⟨h.os, h.tape, h.output, h.size, fun k hk _ => h.block k hk⟩
theorem Fr.ofGrown {a b : World} {row : Option Nat} (h : a.grownBy b row) : Fr (fun k => row = some k) a b :=
 ⟨h.os, h.tape, h.output, h.size, fun k hk hs => h.block k hk (fun e => hs e.symm)⟩
theorem Fr.cell {S : Nat → Prop} {a b : World} (h : Fr S a b) {g i : Nat} {v : Value} (hs : ¬ S g) (hc : a.cell? ⟨g, i, none⟩ = some v) : b.cell? ⟨g, i, none⟩ = some v :=
 (World.cell?_of_block (a := ⟨g, i, none⟩) (h.block g (block_lt_of_cell hc) hs)).trans hc
def Has (w : World) (g : Nat) (L : List Value) (T : TypeId) : Prop := ∃ lo hi, w.heap[g]? = some (.cells L.toArray T (lo, hi)) ∧ (lo = hi ∨ L.length ≤ lo)
theorem Has.lt {w : World} {g : Nat} {L : List Value} {T : TypeId} (h : Has w g L T) : g < w.heap.size := by
 obtain ⟨lo, hi, h, -⟩ := h
 rcases Nat.lt_or_ge g w.heap.size with k | k
 ·exact k
 ·simp [Array.getElem?_eq_none k] at h
theorem Has.get {w : World} {g : Nat} {L : List Value} {T : TypeId} (h : Has w g L T) (i : Nat) : w.cell? ⟨g, i, none⟩ = L[i]? := by
 obtain ⟨lo, hi, h, -⟩ := h
 rw [cell_of_row w g i _ T _ h]; simp
theorem Has.cell {w : World} {g : Nat} {L : List Value} {T : TypeId} (h : Has w g L T) {i : Nat} {v : Value} (hv : L[i]? = some v) : w.cell? ⟨g, i, none⟩ = some v := (h.get i).trans hv
theorem Has.free {w : World} {g : Nat} {L : List Value} {T : TypeId} (h : Has w g L T) (i : Nat) (hi : i < L.length) : w.frozen? ⟨g, i, none⟩ = false := by
 obtain ⟨lo, hi', h, k⟩ := h
 simp only [World.frozen?, h]
 rcases k with rfl | k
 ·simp <;> omega
 ·simp <;> omega
theorem Has.ready {w : World} {g : Nat} {L : List Value} {T : TypeId} (h : Has w g L T) {i : Nat} (hi : i < L.length) : ∃ v, w.cell? ⟨g, i, none⟩ = some v ∧ w.frozen? ⟨g, i, none⟩ = false :=
 ⟨L[i], h.cell (List.getElem?_eq_getElem hi), h.free i hi⟩
theorem Has.keep {S : Nat → Prop} {w w' : World} {g : Nat} {L : List Value} {T : TypeId} (h : Has w g L T) (hf : Fr S w w') (hs : ¬ S g) : Has w' g L T := by
 have hl := h.lt
 obtain ⟨lo, hi, h, k⟩ := h
 exact ⟨lo, hi, (hf.block g hl hs).trans h, k⟩
theorem Has.set {w : World} {g : Nat} {L : List Value} {T : TypeId} (h : Has w g L T) (i : Nat) (v : Value) : Has (w.setCell ⟨g, i, none⟩ v) g (L.set i v) T := by
 have hl := h.lt
 obtain ⟨lo, hi, h, k⟩ := h
 refine ⟨lo, hi, ?_, by simpa using k⟩
 simp only [World.setCell, Array.getElem?_modify, if_true]
 simp [h]
theorem Has.other {w : World} {g g' : Nat} {L : List Value} {T : TypeId} (h : Has w g L T) (i : Nat) (s : Option Nat) (v : Value) (hn : g ≠ g') : Has (w.setCell ⟨g', i, s⟩ v) g L T := by
 obtain ⟨lo, hi, h, k⟩ := h
 exact ⟨lo, hi, (heap_setCell_other w ⟨g', i, s⟩ g v hn).trans h, k⟩
theorem Has.new (w : World) (L : Array Value) (T : TypeId) : Has (w.alloc (.cells L T)) w.heap.size L.toList T :=
 ⟨0, 0, by have := heap_alloc_new w (.cells L T); simpa using this, .inl rfl⟩
theorem Has.alloc {w : World} {g : Nat} {L : List Value} {T : TypeId} (h : Has w g L T) (o : Obj) : Has (w.alloc o) g L T := by
 have hl := h.lt
 obtain ⟨lo, hi, h, k⟩ := h
 exact ⟨lo, hi, (Below.heap_alloc w o g hl).trans h, k⟩
theorem Has.drew {w : World} {g : Nat} {L : List Value} {T : TypeId} (h : Has w g L T) : Has w.drew g L T := h
theorem Has.drewN {w : World} {g : Nat} {L : List Value} {T : TypeId} (h : Has w g L T) (n : Nat) : Has (w.drewN n) g L T := h
def At (w : World) (b o : Nat) (vs : List Value) : Prop := ∀ i v, vs[i]? = some v → w.cell? ⟨b, o + i, none⟩ = some v
def Rd (w : World) (a : Option Addr) (n : Nat) (vs : List Value) : Prop := vs.length = n ∧ (n = 0 ∨ ∃ b o, a = some ⟨b, o, none⟩ ∧ At w b o vs)
def Off (S : Nat → Prop) (a : Option Addr) : Prop := ∀ x, a = some x → ¬ S x.block
theorem Off.nob (a : Option Addr) : Off Nob a := fun _ _ h => h
theorem At.keep {S : Nat → Prop} {w w' : World} {b o : Nat} {vs : List Value} (h : At w b o vs) (hf : Fr S w w') (hs : ¬ S b) : At w' b o vs :=
 fun i v hv => hf.cell hs (h i v hv)
theorem Rd.keep {S : Nat → Prop} {w w' : World} {a : Option Addr} {n : Nat} {vs : List Value} (h : Rd w a n vs) (hf : Fr S w w') (hs : Off S a) : Rd w' a n vs := by
 refine ⟨h.1, h.2.imp id ?_⟩
 rintro ⟨b, o, rfl, ha⟩
 exact ⟨b, o, rfl, ha.keep hf (hs _ rfl)⟩
theorem Rd.still {w w' : World} {a : Option Addr} {n : Nat} {vs : List Value} (h : Rd w a n vs) (hf : Fr Nob w w') : Rd w' a n vs := h.keep hf (Off.nob a)
theorem Rd.nil (w : World) (a : Option Addr) : Rd w a 0 [] := ⟨rfl, .inl rfl⟩
theorem Rd.len {w : World} {a : Option Addr} {n : Nat} {vs : List Value} (h : Rd w a n vs) : vs.length = n := h.1
theorem _root_.ap16 {p : Prop} (h : p := by omega) : p := h
theorem Rd.at {w : World} {a : Option Addr} {n : Nat} {vs : List Value} (h : Rd w a n vs) (hn : 0 < n) : ∃ b o, a = some ⟨b, o, none⟩ ∧ At w b o vs := h.2.resolve_left ap16
theorem Rd.ofHas {w : World} {g n : Nat} {L : List Value} {T : TypeId} (h : Has w g L T) (o : Nat) (hn : o + n ≤ L.length) : Rd w (some ⟨g, o, none⟩) n ((L.drop o).take n) := by
 refine ⟨by simp; omega, .inr ⟨g, o, rfl, fun i v hv => ?_⟩⟩
 rw [h.get]
 rw [List.getElem?_take] at hv
 split at hv
 ·simpa using hv
 ·cases hv
theorem _root_.ap17 {p : Prop} (h : p := by simp) : p := h
theorem Rd.whole {w : World} {g : Nat} {L : List Value} {T : TypeId} (h : Has w g L T) : Rd w (some ⟨g, 0, none⟩) L.length L := by
 simpa using Rd.ofHas h 0 (n := L.length) ap17
theorem At.cell {w : World} {b o : Nat} {vs : List Value} (h : At w b o vs) {i : Nat} (hi : i < vs.length) : w.cell? ⟨b, o + i, none⟩ = some (vs.getD i undef) :=
 h i _ (by simp [List.getD_eq_getElem?_getD, List.getElem?_eq_getElem hi])
theorem At.sub {w : World} {b o : Nat} {vs : List Value} (h : At w b o vs) (k n : Nat) : At w b (o + k) ((vs.drop k).take n) := by
 intro i v hv
 rw [Nat.add_assoc]
 refine h (k + i) v ?_
 rw [List.getElem?_take] at hv
 split at hv
 ·simpa using hv
 ·cases hv
def bs (l : List UInt8) : List Value := l.map fun x => .int .u8 (x.toNat : Int)
theorem a0I (l : List UInt8) : (bs l).length = l.length := by simp [bs]
theorem d0C (l m : List UInt8) : bs (l ++ m) = bs l ++ bs m := by simp [bs]
theorem e0y (l : List UInt8) (n : Nat) : (bs l).take n = bs (l.take n) := by simp [bs]
theorem n0Q (l : List UInt8) (n : Nat) : (bs l).drop n = bs (l.drop n) := by simp [bs]
theorem l0W (l : List UInt8) (i : Nat) (hi : i < l.length) : (bs l)[i]? = some (.int .u8 ((l.getD i 0).toNat : Int)) := by
 simp [bs, List.getElem?_eq_getElem hi, List.getD_eq_getElem?_getD]
theorem h0m (l : List UInt8) (i : Nat) (x : UInt8) : (bs l).set i (.int .u8 (x.toNat : Int)) = bs (l.set i x) := by simp [bs]
theorem i0d (l : List UInt8) : ∀ v ∈ bs l, v.oneCell' = true := by intro v hv; simp [bs] at hv; obtain ⟨x, _, rfl⟩ := hv; rfl
def RdB (w : World) (a : Option Addr) (n : Nat) (l : List UInt8) : Prop := Rd w a n (bs l)
theorem RdB.len {w : World} {a : Option Addr} {n : Nat} {l : List UInt8} (h : RdB w a n l) : l.length = n := by have := h.1; rwa [a0I] at this
theorem RdB.at {w : World} {a : Option Addr} {n : Nat} {l : List UInt8} (h : RdB w a n l) (hn : 0 < n) : ∃ b o, a = some ⟨b, o, none⟩ ∧ ∀ i, i < n → w.cell? ⟨b, o + i, none⟩ = some (.int .u8 ((l.getD i 0).toNat : Int)) := by
 obtain ⟨b, o, ha, hc⟩ := Rd.at h hn
 exact ⟨b, o, ha, fun i hi => hc i _ (l0W l i (by rw [h.len]; exact hi))⟩
theorem RdB.still {w w' : World} {a : Option Addr} {n : Nat} {l : List UInt8} (h : RdB w a n l) (hf : Fr Nob w w') : RdB w' a n l := Rd.still h hf
theorem RdB.keep {S : Nat → Prop} {w w' : World} {a : Option Addr} {n : Nat} {l : List UInt8} (h : RdB w a n l) (hf : Fr S w w') (hs : Off S a) : RdB w' a n l := Rd.keep h hf hs
theorem RdB.nil (w : World) (a : Option Addr) : RdB w a 0 [] := Rd.nil w a
def ws (l : List UInt64) : List Value := l.map fun x => .int .u64 (x.toNat : Int)
theorem a0W (l : List UInt64) : (ws l).length = l.length := by simp [ws]
theorem c0n (l : List UInt64) (i : Nat) (hi : i < l.length) : (ws l)[i]? = some (.int .u64 ((l.getD i 0).toNat : Int)) := by
 simp [ws, List.getElem?_eq_getElem hi, List.getD_eq_getElem?_getD]
theorem f0E (l : List UInt64) (i : Nat) (x : UInt64) : (ws l).set i (.int .u64 (x.toNat : Int)) = ws (l.set i x) := by simp [ws]
def is (l : List Nat) : List Value := l.map fun (x : Nat) => .int .i64 (x : Int)
theorem c0D (l : List Nat) : (is l).length = l.length := by simp [is]
theorem y0t (l : List Nat) (i : Nat) (hi : i < l.length) : (is l)[i]? = some (.int .i64 ((l.getD i 0 : Nat) : Int)) := by
 simp [is, List.getElem?_eq_getElem hi, List.getD_eq_getElem?_getD]
theorem y0u (l : List Nat) (i : Nat) (x : Nat) : (is l).set i (.int .i64 (x : Int)) = is (l.set i x) := by simp [is]
end Go.Mv
namespace Go.Mv
open Go.RowKit
variable {P : Program}
theorem d0S (g o i : Nat) : (⟨g, o, none⟩ : Addr).add i = ⟨g, o + i, none⟩ := by unfold Addr.add; split <;> simp_all
theorem j0L (L : List Value) (o : Nat) : splice L o [] = L := by simp [splice]
theorem i0e (L : List Value) (o : Nat) (v : Value) (vs : List Value) (h : o < L.length) : splice (L.set o v) (o + 1) vs = splice L o (v :: vs) := by
 unfold splice
 have e1 : (L.set o v).take (o + 1) = L.take o ++ [v] := by
  rw [List.take_set, List.take_succ_eq_append_getElem h, List.set_append_right _ _ (by simp; omega), List.length_take, Nat.min_eq_left (Nat.le_of_lt h), Nat.sub_self]
  rfl
 have e2 : (L.set o v).drop (o + 1 + vs.length) = L.drop (o + 1 + vs.length) := by rw [List.drop_set, if_pos ap16]
 rw [e1, e2]
 simp [Nat.add_comm, Nat.add_left_comm]
theorem k0E {w : World} {g : Nat} {L : List Value} {T : TypeId} (h : Has w g L T) (i : Nat) (hi : i < L.length) (v : Value) (hv : v.oneCell' = true) :
  (store ⟨g, i, none⟩ v).run P w = .ok () (w.setCell ⟨g, i, none⟩ v) := by
 rw [run_store P w _ v _ hv, h.cell (List.getElem?_eq_getElem hi)]
 simp [h.free i hi]
theorem b0Q (g o : Nat) (T : TypeId) : ∀ (vs : List Value) (i : Nat) (L : List Value) (w : World), Has w g L T → o + i + vs.length ≤ L.length → (∀ v ∈ vs, v.oneCell' = true) →
  ∃ w', (storeCells ⟨g, o, none⟩ vs i).run P w = .ok () w' ∧ Has w' g (splice L (o + i) vs) T ∧ Fr (One g) w w' ∧ w'.heap.size = w.heap.size
 | [], i, L, w, h, _, _ => ⟨w, rfl, by rw [j0L]; exact h, Fr.refl _ _, rfl⟩
 | v :: vs, i, L, w, h, hl, h1 => by
  have hi : o + i < L.length := by simp at hl; omega
  obtain ⟨w', hr, hh, hf, hz⟩ := b0Q g o T vs (i + 1) (L.set (o + i) v) (w.setCell ⟨g, o + i, none⟩ v) (h.set _ _) (by simp at hl ⊢; omega) (fun x hx => h1 x (by simp [hx]))
  refine ⟨w', ?_, ?_, ?_, ?_⟩
  ·simp only [storeCells, Sem.run_bind, d0S, k0E h (o + i) hi v (h1 v ap17), Result.andThen_ok, hr]
  ·rw [← i0e L (o + i) v vs hi]; exact hh
  ·exact ((Fr.refl (One g) w).setCell g (o + i) none v (fun _ => rfl)).trans hf (fun _ _ t => t)
  ·rw [hz]; simp [World.setCell]
theorem At.add {w : World} {b o : Nat} {vs : List Value} (h : At w b o vs) : ∀ j u, vs[j]? = some u → w.cell? ((⟨b, o, none⟩ : Addr).add j) = some u := fun j u hu => by
 rw [d0S]; exact h j u hu
theorem g0V {w : World} {a : Option Addr} {vs : List Value} (size n m c : Nat) (h : At w (a.getD ⟨0, 0, none⟩).block (a.getD ⟨0, 0, none⟩).off (vs.take (n * size)) ∨ n * size = 0) (ha : 0 < n * size → ∃ b o, a = some ⟨b, o, none⟩) (hl : n * size ≤ vs.length) :
  (Builtin.firstCells size n (.slice a m c)).run P w = .ok (vs.take (n * size)).toArray w := by
 rcases Nat.eq_zero_or_pos (n * size) with h0 | h0
 ·rw [h0]
  cases a with
  | none => simp [Builtin.firstCells]
  | some ad => simp [Builtin.firstCells, h0, loadCells, loadCellsFrom]
 ·obtain ⟨b, o, rfl⟩ := ha h0
  have h := h.resolve_right ap16
  exact run_firstCells_some (P := P) w size n ⟨b, o, none⟩ m c (vs.take (n * size)) (by simp; omega) h.add
theorem e0d {w : World} {a : Option Addr} {k : Nat} {vs : List Value} (h : Rd w a k vs) (size n m c : Nat) (hl : n * size ≤ k) :
  (Builtin.firstCells size n (.slice a m c)).run P w = .ok (vs.take (n * size)).toArray w := by
 refine g0V size n m c ?_ ?_ (by rw [h.len]; exact hl)
 ·rcases Nat.eq_zero_or_pos (n * size) with h0 | h0
  ·exact .inr h0
  ·obtain ⟨b, o, rfl, hc⟩ := h.at ap16
   refine .inl fun i v hv => hc i v ?_
   rw [List.getElem?_take] at hv
   split at hv
   ·exact hv
   ·cases hv
 ·intro h0
  obtain ⟨b, o, rfl, _⟩ := h.at ap16
  exact ⟨b, o, rfl⟩
def Own (w : World) (base : Nat) (T : TypeId) (sz : Nat) (v : Value) (n : Nat) (L : List Value) : Prop :=
 L.length = n * sz ∧ ((v = .slice none 0 0 ∧ n = 0) ∨
  ∃ g o cap B, v = .slice (some ⟨g, o, none⟩) n cap ∧ base ≤ g ∧ Has w g B T ∧ n ≤ cap ∧ cap ≤ maxLen ∧ o + cap * sz ≤ B.length ∧ (B.drop o).take (n * sz) = L)
def k0F (v : Value) : Nat → Prop := fun k => v.ownBlock = some k
theorem Own.nil (w : World) (base : Nat) (T : TypeId) (sz : Nat) : Own w base T sz (.slice none 0 0) 0 [] := ⟨by simp, .inl ⟨rfl, rfl⟩⟩
theorem Own.lt {w : World} {base : Nat} {T : TypeId} {sz : Nat} {v : Value} {n : Nat} {L : List Value} (h : Own w base T sz v n L) {k : Nat} (hk : k0F v k) : base ≤ k ∧ k < w.heap.size := by
 rcases h.2 with ⟨rfl, _⟩ | ⟨g, o, cap, B, rfl, hb, hh, _⟩
 ·cases hk
 ·have : g = k := by simpa [k0F, Value.ownBlock] using hk
  subst this
  exact ⟨hb, hh.lt⟩
theorem Own.keep {S : Nat → Prop} {w w' : World} {base : Nat} {T : TypeId} {sz : Nat} {v : Value} {n : Nat} {L : List Value} (h : Own w base T sz v n L) (hf : Fr S w w') (hs : ∀ k, k0F v k → ¬ S k) : Own w' base T sz v n L := by
 refine ⟨h.1, h.2.imp id ?_⟩
 rintro ⟨g, o, cap, B, rfl, hb, hh, r⟩
 exact ⟨g, o, cap, B, rfl, hb, hh.keep hf (hs g rfl), r⟩
theorem Own.still {w w' : World} {base : Nat} {T : TypeId} {sz : Nat} {v : Value} {n : Nat} {L : List Value} (h : Own w base T sz v n L) (hf : Fr Nob w w') : Own w' base T sz v n L := h.keep hf (fun _ _ t => t)
theorem Own.mono {w : World} {base base' : Nat} {T : TypeId} {sz : Nat} {v : Value} {n : Nat} {L : List Value} (h : Own w base T sz v n L) (hb : base' ≤ base) : Own w base' T sz v n L := by
 refine ⟨h.1, h.2.imp id ?_⟩
 rintro ⟨g, o, cap, B, rfl, hb', r⟩
 exact ⟨g, o, cap, B, rfl, Nat.le_trans hb hb', r⟩
theorem Own.form {w : World} {base : Nat} {T : TypeId} {sz : Nat} {v : Value} {n : Nat} {L : List Value} (h : Own w base T sz v n L) : ∃ a cap, v = .slice a n cap ∧ n ≤ cap ∧ Rd w a (n * sz) L ∧ (∀ x, a = some x → base ≤ x.block) := by
 rcases h.2 with ⟨rfl, rfl⟩ | ⟨g, o, cap, B, rfl, hb, hh, hn, hm, hl, ht⟩
 ·refine ⟨none, 0, rfl, Nat.le_refl _, ⟨by simpa using h.1, .inl ap17⟩, by simp⟩
 ·have hle : n * sz ≤ cap * sz := Nat.mul_le_mul_right _ hn
  refine ⟨_, cap, rfl, hn, ?_, by simpa using hb⟩
  rw [← ht]
  exact Rd.ofHas hh o ap16
theorem Own.made {w : World} {g : Nat} {T : TypeId} {B : List Value} (h : Has w g B T) (base : Nat) (hb : base ≤ g) (sz n cap : Nat) (hn : n ≤ cap) (hm : cap ≤ maxLen) (hl : cap * sz ≤ B.length) :
  Own w base T sz (.slice (some ⟨g, 0, none⟩) n cap) n (B.take (n * sz)) := by
 have hle : n * sz ≤ cap * sz := Nat.mul_le_mul_right _ hn
 exact ⟨by simp; omega, .inr ⟨g, 0, cap, B, rfl, hb, h, hn, hm, by omega, by simp⟩⟩
theorem Own.fr {S : Nat → Prop} {w0 w w' : World} {base : Nat} {T : TypeId} {sz : Nat} {v : Value} {n : Nat} {L : List Value} (h : Own w base T sz v n L) (hf : Fr S w0 w) (hb : w0.heap.size ≤ base) (k : Fr (k0F v) w w') : Fr S w0 w' :=
 hf.trans k (fun _ hi t => by have := (h.lt t).1; omega)
theorem f0U (L : List Value) (o : Nat) (vs : List Value) (h : o + vs.length ≤ L.length) : (splice L o vs).length = L.length := length_splice L o vs h
theorem n0R (L : List Value) (o k : Nat) (vs : List Value) (h : o + k + vs.length ≤ L.length) : ((splice L (o + k) vs).drop o).take (k + vs.length) = (L.drop o).take k ++ vs := by
 unfold splice
 have h1 : (L.take (o + k)).drop o = (L.drop o).take k := by rw [List.drop_take]; congr 1; omega
 rw [List.drop_append_of_le_length (by simp; omega), h1]
 rw [← List.append_assoc]
 exact List.take_left' (by simp; omega)
theorem e0T {w : World} (t ty e : TypeId) (i : TypeInfo) (ht : P.underlying t = some (.slice e)) (hi : P.info? e = some i)
  (g o sLen sCap : Nat) (B : List Value) (T : TypeId) (hg : Has w g B T) (a : Option Addr) (m c : Nat) (news : List Value) (hnews : Rd w a (m * i.size) news) (h1 : ∀ u ∈ news, u.oneCell' = true)
  (hroom : sLen + m ≤ sCap) (hfit : o + sLen * i.size + news.length ≤ B.length) :
  ∃ w', (Builtin.append_ #[t, t] ty #[.slice (some ⟨g, o, none⟩) sLen sCap, .slice a m c]).run P w = .ok (.slice (some ⟨g, o, none⟩) (sLen + m) sCap) w' ∧
   Has w' g (splice B (o + sLen * i.size) news) T ∧ Fr (One g) w w' ∧ w'.heap.size = w.heap.size := by
 have hf := e0d (P := P) hnews i.size m m c (Nat.le_refl _)
 rw [List.take_of_length_le (by rw [hnews.len]; exact Nat.le_refl _)] at hf
 obtain ⟨w', hst, hh, hfr, hz⟩ := b0Q (P := P) g (o + sLen * i.size) T news 0 B w hg ap16 h1
 simp only [Nat.add_zero] at hh
 refine ⟨w', ?_, hh, hfr, hz⟩
 simp [Builtin.append_, run_underlying ht, sizeOf, typeInfo, hi, Builtin.lenOf, hroom, hf, d0S, hst]
theorem i0f {w : World} (t ty e : TypeId) (i : TypeInfo) (ht : P.underlying t = some (.slice e)) (hi : P.info? e = some i) (s : Option Addr) (sLen sCap : Nat) (hl : sLen ≤ sCap) (a : Option Addr) (c : Nat) :
  (Builtin.append_ #[t, t] ty #[.slice s sLen sCap, .slice a 0 c]).run P w = .ok (.slice s sLen sCap) w := by
 have hf : (Builtin.firstCells i.size 0 (.slice a 0 c)).run P w = .ok #[] w := by
  cases a <;> simp [Builtin.firstCells, loadCells, loadCellsFrom]
 cases s <;> simp [Builtin.append_, run_underlying ht, sizeOf, typeInfo, hi, Builtin.lenOf, hl, hf, storeCells]
theorem i0g {w : World} (base : Nat) (t ty e : TypeId) (z : Value) (sz by_ : Nat) (ht : P.underlying t = some (.slice e)) (hi0 : (P.info? e).map (fun i => (i.zero, i.size, i.bytes)) = some (some z, sz, by_))
  (hzs : z.cells.size = sz) (hsz : 0 < sz)
  (v : Value) (n : Nat) (L : List Value) (hown : Own w base e sz v n L)
  (a : Option Addr) (m c : Nat) (news : List Value) (hnews : Rd w a (m * sz) news) (h1 : ∀ u ∈ news, u.oneCell' = true)
  (h63 : n + m ≤ maxLen) (hbytes : (n + m) * by_ ≤ 140737488355328) (hbase : base ≤ w.heap.size) :
  ∃ v' w', (Builtin.append_ #[t, t] ty #[v, .slice a m c]).run P w = .ok v' w' ∧ Own w' base e sz v' (n + m) (L ++ news) ∧ Fr (k0F v) w w' ∧
   (v'.ownBlock = v.ownBlock ∨ v'.ownBlock = some w.heap.size) := by
 obtain ⟨i, hi, hz, hsize, hby⟩ := info_parts hi0
 subst hsize
 subst hby
 rcases Nat.eq_zero_or_pos m with rfl | hm
 ·obtain ⟨s, cap, rfl, hc, -, -⟩ := hown.form
  have hn : news = [] := List.eq_nil_of_length_eq_zero (by rw [hnews.len]; simp)
  subst hn
  exact ⟨_, w, i0f t ty e i ht hi s n cap hc a c, by simpa using hown, Fr.refl _ _, .inl rfl⟩
 have hms : 0 < m * i.size := Nat.mul_pos hm hsz
 obtain ⟨b, o', rfl, hat⟩ := hnews.at hms
 have hlen : (L ++ news).length = (n + m) * i.size := by rw [List.length_append, hown.1, hnews.len, Nat.add_mul]
 have hsmall : n + m ≤ 9223372036854775807 := by simp only [maxLen] at h63; omega
 have grown : ∀ (old : Nat), old < n + m →
   Own (w.drew.alloc (.cells (L.toArray ++ news.toArray ++ Builtin.zeroCells z.cells (grownCap w (n + m) old e - (n + m))) e)) base e i.size
    (.slice (some ⟨w.heap.size, 0, none⟩) (n + m) (grownCap w (n + m) old e)) (n + m) (L ++ news) ∧
   Fr (k0F v) w (w.drew.alloc (.cells (L.toArray ++ news.toArray ++ Builtin.zeroCells z.cells (grownCap w (n + m) old e - (n + m))) e)) := by
  intro old ho
  have hge := grownCap_ge w (n + m) old e
  have hcm : grownCap w (n + m) old e ≤ maxLen := grownCap_le_maxLen w (n + m) old e h63
  have hz' : (Builtin.zeroCells z.cells (grownCap w (n + m) old e - (n + m))).size = (grownCap w (n + m) old e - (n + m)) * i.size := by simp [size_zeroCells, hzs]
  have hmul : (n + m) * i.size + (grownCap w (n + m) old e - (n + m)) * i.size = grownCap w (n + m) old e * i.size := by rw [← Nat.add_mul]; congr 1; omega
  refine ⟨⟨hlen, .inr ⟨w.heap.size, 0, _, _, rfl, hbase, Has.new w.drew _ e, hge, hcm, ?_, ?_⟩⟩, ((Fr.refl _ w).drew).alloc _⟩
  ·rw [List.length_append] at hlen
   simp only [Array.toList_append, List.length_append, Array.length_toList, hz', Nat.zero_add]
   omega
  ·simp only [Array.toList_append, List.drop_zero]
   rw [← hlen]
   exact List.take_left
 rcases hown.2 with ⟨rfl, rfl⟩ | ⟨g, o, cap, B, rfl, hbg, hg, hnc, hcm, hl, htake⟩
 ·have hx : L = [] := List.eq_nil_of_length_eq_zero (by simpa using hown.1)
  subst hx
  have hr := run_append_nil (P := P) w t ty e i z ht hi hz ⟨b, o', none⟩ m c news hnews.len hat.add hm ap16 (by have hb := hbytes; simp only [Nat.zero_add] at hb; omega)
  have hgr := grown 0 ap16
  simp only [Nat.zero_add, List.nil_append, Array.empty_append] at hgr ⊢
  exact ⟨_, _, hr, hgr.1, hgr.2, .inr rfl⟩
 ·by_cases hroom : n + m ≤ cap
  ·have hle : (n + m) * i.size ≤ cap * i.size := Nat.mul_le_mul_right _ hroom
   have hnl := hnews.len
   have hfit : o + n * i.size + news.length ≤ B.length := by rw [Nat.add_mul] at hle; omega
   obtain ⟨w', hr, hh, hf, hzz⟩ := e0T (P := P) t ty e i ht hi g o n cap B e hg _ m c news hnews h1 hroom hfit
   refine ⟨_, _, hr, ⟨hlen, .inr ⟨g, o, cap, _, rfl, hbg, hh, hroom, hcm, ?_, ?_⟩⟩, hf.mono (fun k _ t => by have e : k = g := t; subst e; rfl), .inl rfl⟩
   ·rw [f0U _ _ _ hfit]; exact hl
   ·have := n0R B o (n * i.size) news hfit
    rw [htake] at this
    rw [← this, hnl, Nat.add_mul]
  ·have hle : n * i.size ≤ cap * i.size := Nat.mul_le_mul_right _ hnc
   have hrd : Rd w (some ⟨g, o, none⟩) (n * i.size) L := by rw [← htake]; exact Rd.ofHas hg o ap16
   have holds : ∀ j u, L[j]? = some u → w.cell? ((⟨g, o, none⟩ : Addr).add j) = some u := by
    rcases Nat.eq_zero_or_pos (n * i.size) with h0 | h0
    ·have : L = [] := List.eq_nil_of_length_eq_zero (by rw [hown.1, h0])
     subst this; intro j u hu; simp at hu
    ·obtain ⟨b2, o2, he, hc2⟩ := hrd.at h0
     simp only [Option.some.injEq, Addr.mk.injEq] at he
     obtain ⟨rfl, rfl, -⟩ := he
     exact hc2.add
   have hr := run_append_grow (P := P) w t ty e i z ht hi hz ⟨g, o, none⟩ n cap L hown.1 holds ⟨b, o', none⟩ m c news hnews.len hat.add ap16 ap16 (growslice_fits ap16 hbytes)
   have hgr := grown cap ap16
   exact ⟨_, _, hr, hgr.1, hgr.2, .inr rfl⟩
theorem z0n (s : ByteArray) : bs s.data.toList = (s.data.map fun b => Value.int .u8 b.toNat).toList := by simp [bs]
theorem B0N (s : ByteArray) : (s.data.map fun b => Value.int .u8 b.toNat) = (bs s.data.toList).toArray := by apply Array.ext'; simp [bs]
theorem y0v (s : ByteArray) : (bs s.data.toList).length = s.size := by simp [bs]
section
variable {w : World} {ops : Array Oper} {rest : List Oper} {o : Oper} {a : Act} {Q : Exit → Act → World → Prop}
theorem c0E {s x : Operand} {t : TypeId} (hgd : o.guard = none) (ho : o.op = .call { callee := .builtin .append, args := #[s, x], argTypes := #[t, t] })
  {e : TypeId} {z : Value} {sz by_ : Nat} (ht : P.underlying t = some (.slice e)) (hi0 : (P.info? e).map (fun i => (i.zero, i.size, i.bytes)) = some (some z, sz, by_))
  (hzs : z.cells.size = sz) (hsz : 0 < sz)
  {v : Value} {n base : Nat} {L : List Value} (hown : Own w base e sz v n L) (hs : a.eval s = v)
  {xa : Option Addr} {m c : Nat} {news : List Value} (hx : a.eval x = .slice xa m c) (hnews : Rd w xa (m * sz) news) (h1 : ∀ u ∈ news, u.oneCell' = true)
  (h63 : n + m ≤ maxLen) (hbytes : (n + m) * by_ ≤ 140737488355328) (hbase : base ≤ w.heap.size)
  (h : ∀ v' w', Own w' base e sz v' (n + m) (L ++ news) → Fr (k0F v) w w' → (v'.ownBlock = v.ownBlock ∨ v'.ownBlock = some w.heap.size) → wpList P ops Q rest (a.put o.dst v') w') : wpList P ops Q (o :: rest) a w := by
 refine wpList_plain hgd fun K hK => ?_
 obtain ⟨v', w', hr, h2, h3, h4⟩ := i0g (P := P) base t o.type e z sz by_ ht hi0 hzs hsz v n L hown xa m c news hnews h1 h63 hbytes hbase
 unfold Oper.wp execOp
 simp only [ho, resolve, invoke, builtin, Sem.run_bind, Sem.run_pure, Result.andThen_ok, List.map_toArray, List.map_cons, List.map_nil, hs, hx, hr]
 exact hK _ _ (h v' w' h2 h3 h4)
theorem k0G (z : Value) (hz : z.cells = #[z]) (n : Nat) : (madeCells z.cells n).toList = List.replicate n z := by rw [hz]; exact toList_madeCells_one z n
theorem c0y {l c : Operand} {t : TypeId} (hgd : o.guard = none) (ho : o.op = .makeSlice t l c) {e : TypeId} {z : Value} {by_ : Nat} (ht : P.underlying t = some (.slice e))
  (hi0 : (P.info? e).map (fun i => (i.zero, i.size, i.bytes)) = some (some z, 1, by_)) (hzc : z.cells = #[z]) {kl kc : IntKind} {x y : Int} (hl : a.eval l = .int kl x) (hc : a.eval c = .int kc y) (n m : Nat) (hx : x = n) (hy : y = m) (hnm : n ≤ m)
  (hb : by_ * m ≤ 281474976710656) (h63 : m ≤ maxLen)
  (h : ∀ w', Has w' w.heap.size (List.replicate m z) e → Fr Nob w w' → w'.heap.size = w.heap.size + 1 → wpList P ops Q rest (a.put o.dst (.slice (some ⟨w.heap.size, 0, none⟩) n m)) w') : wpList P ops Q (o :: rest) a w := by
 refine wpList_plain hgd fun K hK => ?_
 obtain ⟨i, hi, hz, hsize, hby⟩ := info_parts hi0
 subst hx
 subst hy
 have hmx : (m : Int) ≤ 9223372036854775807 := by simp only [maxLen] at h63; omega
 have hbb : (i.bytes : Int) * (m : Int) ≤ 281474976710656 := by
  have k : ((i.bytes * m : Nat) : Int) ≤ 281474976710656 := by rw [hby]; omega
  rwa [Int.natCast_mul] at k
 have hr := run_make (P := P) w t e i z ht hi hz kl kc n m ap16 ap16 hbb hmx
 simp only [Int.toNat_natCast, hsize, Nat.mul_one] at hr
 unfold Oper.wp execOp
 simp only [ho, hl, hc, Sem.run_bind, Sem.run_pure, Result.andThen_ok, hr]
 refine hK _ _ (h _ ?_ ((Fr.refl _ w).alloc _) ap17)
 have := Has.new w (madeCells z.cells m) e
 rwa [k0G z hzc] at this
theorem s0j {d s : Operand} {t u : TypeId} (hgd : o.guard = none) (ho : o.op = .call { callee := .builtin .copy, args := #[d, s], argTypes := #[t, u] }) {e : TypeId} (ht : P.underlying t = some (.slice e)) (hsz : (P.info? e).map (·.size) = some 1)
  {g off dn dc : Nat} (hd : a.eval d = .slice (some ⟨g, off, none⟩) dn dc) {sa : Option Addr} {m c : Nat} (hs : a.eval s = .slice sa m c) {B vs : List Value} {T : TypeId} (hg : Has w g B T) (hrd : Rd w sa m vs) (h1 : ∀ v ∈ vs, v.oneCell' = true)
  (hfit : off + min m dn ≤ B.length)
  (h : ∀ w', Has w' g (splice B off (vs.take (min m dn))) T → Fr (One g) w w' → w'.heap.size = w.heap.size → wpList P ops Q rest (a.put o.dst (.int .i64 (min m dn : Nat))) w') : wpList P ops Q (o :: rest) a w := by
 refine wpList_plain hgd fun K hK => ?_
 obtain ⟨i, hi, hi1⟩ : ∃ i, P.info? e = some i ∧ i.size = 1 := by simpa using hsz
 have hfc := e0d (P := P) hrd 1 (min m dn) m c ap16
 rw [Nat.mul_one] at hfc
 have hlen : (vs.take (min m dn)).length = min m dn := by rw [List.length_take, hrd.len]; omega
 obtain ⟨w', hst, hh, hf, hz⟩ := b0Q (P := P) g off T (vs.take (min m dn)) 0 B w hg (by rw [hlen]; omega) (fun v hv => h1 v (List.mem_of_mem_take hv))
 simp only [Nat.add_zero] at hh
 have hr : (Builtin.copy_ #[t, u] o.type #[.slice (some ⟨g, off, none⟩) dn dc, .slice sa m c]).run P w = .ok (.int .i64 (min m dn : Nat)) w' := by
  simp [Builtin.copy_, run_underlying ht, sizeOf, typeInfo, hi, hi1, Builtin.lenOf, hfc, hst, goInt]
 unfold Oper.wp execOp
 simp only [ho, resolve, invoke, builtin, Sem.run_bind, Sem.run_pure, Result.andThen_ok, List.map_toArray, List.map_cons, List.map_nil, hd, hs, hr]
 exact hK _ _ (h w' hh hf hz)
def mkS (l : List UInt8) : ByteArray := ⟨l.toArray⟩
theorem h0D (s : ByteArray) : mkS s.data.toList = s := by simp [mkS]
theorem b0a (l : List UInt8) : (mkS l).size = l.length := by simp [mkS, ByteArray.size]
theorem b0o (l : List UInt8) : (mkS l).data.toList = l := by simp [mkS]
theorem c0f {sa : Option Addr} {m : Nat} {l : List UInt8} (hrd : RdB w sa m l) (c : Nat) {src e dst : TypeId} (hs : P.underlying src = some (.slice e)) (he : P.underlying e = some (.int .u8)) (hd : P.underlying dst = some .string) :
  (convert src dst (.slice sa m c)).run P w = .ok (.string (mkS l)) w := by
 have hl := hrd.len
 rcases Nat.eq_zero_or_pos m with h0 | h0
 ·subst h0
  obtain rfl : l = [] := List.eq_nil_of_length_eq_zero hl
  cases sa with
  | none => exact run_convert_bytes_nil w src e hs he 0 c dst hd
  | some ad =>
   rw [run_convert_bytes_string w src dst e _ 0 c hs he hd]
   simp [Conv.bytesToString, mkS, loadCells, loadCellsFrom]
   rfl
 ·obtain ⟨b, o, rfl, hc⟩ := hrd.at h0
  have := run_convert_bytes_arg (P := P) w src e hs he b o m c (l.map fun x => (x.toNat : Int)) (by simp [hl]) (fun i hi => by
   rw [hc i hi]; simp [List.getD_eq_getElem?_getD, List.getElem?_eq_getElem (show i < l.length by omega)]) dst hd
  rw [this]
  have hid : (l.map ((fun n : Int => UInt8.ofNat n.toNat) ∘ fun x : UInt8 => (x.toNat : Int))) = l := by
   rw [List.map_congr_left (g := id)]
   ·simp
   ·intro x _; simp
  simp only [strOfNums, List.map_map, hid, mkS]
theorem e0e {x : Operand} {src dst : TypeId} (hgd : o.guard = none) (ho : o.op = .convert src dst x) {e : TypeId} (hs : P.underlying src = some (.slice e)) (he : P.underlying e = some (.int .u8)) (hd : P.underlying dst = some .string)
  {sa : Option Addr} {m c : Nat} {l : List UInt8} (hx : a.eval x = .slice sa m c) (hrd : RdB w sa m l) (h : wpList P ops Q rest (a.put o.dst (.string (mkS l))) w) : wpList P ops Q (o :: rest) a w := by
 refine wpList_plain hgd fun K hK => ?_
 have hr := c0f (P := P) hrd c hs he hd
 unfold Oper.wp execOp
 simp only [ho, hx, Sem.run_bind, Sem.run_pure, Result.andThen_ok, hr]
 exact hK _ _ h
theorem d0b {x : Operand} {src dst : TypeId} (hgd : o.guard = none) (ho : o.op = .convert src dst x) {e : TypeId} (hs : P.underlying src = some .string) (hd : P.underlying dst = some (.slice e)) (he : P.underlying e = some (.int .u8))
  {q : ByteArray} (hx : a.eval x = .string q) (hq : q.size ≤ maxLen) (base : Nat) (hb : base ≤ w.heap.size)
  (h : ∀ cap w', Own w' base e 1 (.slice (some ⟨w.heap.size, 0, none⟩) q.size cap) q.size (bs q.data.toList) → Fr Nob w w' → w.heap.size < w'.heap.size → wpList P ops Q rest (a.put o.dst (.slice (some ⟨w.heap.size, 0, none⟩) q.size cap)) w') : wpList P ops Q (o :: rest) a w := by
 refine wpList_plain hgd fun K hK => ?_
 have hr := run_bytes_of_string (P := P) w src dst e q hs hd he
 have hge := grownCap_ge w q.size 0 e
 have hcm := grownCap_le_maxLen w q.size 0 e hq
 unfold Oper.wp execOp
 simp only [ho, hx, Sem.run_bind, Sem.run_pure, Result.andThen_ok, hr]
 refine hK _ _ (h _ _ ⟨by rw [y0v]; omega, .inr ⟨w.heap.size, 0, _, (bytesRow q (grownCap w q.size 0 e)).toList, rfl, hb, ?_, hge, hcm, ?_, ?_⟩⟩ (((Fr.refl _ w).drew).alloc _) ap17)
 ·refine ⟨(bytesRow q (grownCap w q.size 0 e)).size, (bytesRow q (grownCap w q.size 0 e)).size + 1, ?_, .inr (Nat.le_of_eq ?_)⟩
  ·have := heap_alloc_new w.drew (.cells (bytesRow q (grownCap w q.size 0 e)) e ((bytesRow q (grownCap w q.size 0 e)).size, (bytesRow q (grownCap w q.size 0 e)).size + 1))
   simpa using this
  ·simp
 ·have hd : q.data.size = q.size := rfl
  simp [bytesRow, hd]; omega
 ·simp only [bytesRow, Array.toList_append, List.drop_zero, Nat.mul_one]
  rw [← z0n]
  exact List.take_left' (by rw [y0v])
end
def D0C (p : Prop) : Prop := p
theorem f0L {w : World} {ops : Array Oper} {rest : List Oper} {o : Oper} {a : Act} {Q : Exit → Act → World → Prop} (h : D0C (wpList P ops Q (o :: rest) a w)) : wpList P ops Q (o :: rest) a w := h
theorem _root_.qH {p : Prop} (h : p) : Hid p := h
theorem wSk (k : Nat) {P : Program} {w : World} {ops : Array Oper} {rest : List Oper} {p1 : Op} {p2 : TypeId} {p3 : String} {p4 : Array Edge} {p5 : Option (Nat × Bool)} {a : Act} {Q : Exit → Act → World → Prop} (h : D0C (wpList P ops Q (⟨some k, p1, p2, p3, p4, p5⟩ :: rest) a w)) : wpList P ops Q (⟨some k, p1, p2, p3, p4, p5⟩ :: rest) a w := h
theorem wSn {P : Program} {w : World} {ops : Array Oper} {rest : List Oper} {p1 : Op} {p2 : TypeId} {p3 : String} {p4 : Array Edge} {p5 : Option (Nat × Bool)} {a : Act} {Q : Exit → Act → World → Prop} (h : D0C (wpList P ops Q (⟨none, p1, p2, p3, p4, p5⟩ :: rest) a w)) : wpList P ops Q (⟨none, p1, p2, p3, p4, p5⟩ :: rest) a w := h
theorem dZl {α : Type} {l : List α} : List.take l.length (List.drop 0 l) = l := by rw [List.drop_zero, List.take_of_length_le (Nat.le_refl _)]
theorem _root_.apW {P : Program} {o : Oper} {a : Act} {v : Value} (h : ∀ wx, (execOp a.eval o).run P wx = .ok (.value v) wx := by intro wx; go_simp; with_reducible rfl) : ∀ wx, (execOp a.eval o).run P wx = .ok (.value v) wx := h
theorem _root_.apX {P : Program} {o : Oper} {A : (Nat → Value) → Act} {v : Value} (h : ∀ x wx, (execOp (A x).eval o).run P wx = .ok (.value v) wx := by intro xq wx; go_simp; with_reducible rfl) : ∀ x wx, (execOp (A x).eval o).run P wx = .ok (.value v) wx := h
abbrev _root_.zAc : Go.Value := .agg #[.int .u64 0, .int .u64 0, .int .u64 0, .int .u64 0, .int .u64 0, .int .u64 0, .int .u64 0, .int .u64 0, .int .u64 0, .int .u64 0, .int .u64 0, .int .u64 0]
abbrev _root_.zAd : Go.Value := .agg #[.int .u64 0, .int .u64 0, .int .u64 0, .int .u64 0]
theorem n0S (s : ByteArray) : s.toList = s.data.toList := by
 have key : ∀ (n i : Nat) (r : List UInt8), s.size - i = n → ByteArray.toList.loop s i r = r.reverse ++ s.data.toList.drop i := by
  intro n
  induction n with
  | zero =>
   intro i r h
   rw [ByteArray.toList.loop, if_neg ap16, List.drop_eq_nil_of_le (by simp; omega), List.append_nil]
  | succ n ih =>
   intro i r h
   have hi : i < s.size := by omega
   rw [ByteArray.toList.loop, if_pos hi, ih (i + 1) _ ap16]
   have hl : i < s.data.toList.length := by simpa using hi
   rw [List.drop_eq_getElem_cons hl]
   have e : s.get! i = s.data.toList[i] := by
    have hd : i < s.data.size := hi
    show s.data[i]! = _
    rw [getElem!_pos s.data i hd]; simp
   rw [e]; simp
 have := key s.size 0 [] ap16
 simpa [ByteArray.toList] using this
theorem p0o (l : List UInt8) : (mkS l).toList = l := by rw [n0S, b0o]
theorem i0h (l m : List UInt8) : ((mkS l).toList == (mkS m).toList) = decide (l = m) := by
 rw [p0o, p0o]
 by_cases h : l = m
 ·simp [h]
 ·simp [h]
end Go.Mv
namespace Mvp
def fill {α : Type} (F I : List α) (k : Nat) : List α := F.take k ++ I.drop k
theorem e0z {α : Type} (F I : List α) (k : Nat) (h : F.length = I.length) : (fill F I k).length = I.length := by simp [fill]; omega
theorem l0X {α : Type} (F I : List α) : fill F I 0 = I := by simp [fill]
theorem h0E {α : Type} (F I : List α) (k : Nat) (h : F.length = I.length) (hk : F.length ≤ k) : fill F I k = F := by
 unfold fill
 rw [List.take_of_length_le hk, List.drop_eq_nil_of_le ap16, List.append_nil]
theorem k0H {α : Type} (F I : List α) (k : Nat) (h : F.length = I.length) (hk : k < F.length) (d : α) : (fill F I k).set k (F.getD k d) = fill F I (k + 1) := by
 unfold fill
 have e : F.getD k d = F[k] := by simp [List.getD_eq_getElem?_getD, hk]
 rw [e, List.set_append_right _ _ (by simp; omega), List.length_take, Nat.min_eq_left (Nat.le_of_lt hk), Nat.sub_self, List.drop_eq_getElem_cons ap16, List.set_cons_zero, List.take_succ_eq_append_getElem hk]
 simp only [List.append_assoc, List.singleton_append]
def shl (x : UInt64) (k : Nat) : UInt64 := UInt64.ofNat (x.toNat * 2 ^ k)
def shr (x : UInt64) (k : Nat) : UInt64 := UInt64.ofNat (x.toNat / 2 ^ k)
def wx (x y : UInt64) : UInt64 := x ^^^ y
def wo (x y : UInt64) : UInt64 := x ||| y
def wa (x y : UInt64) : UInt64 := x &&& y
def wn (x : UInt64) : UInt64 := ~~~x
def wid (x : UInt8) : UInt64 := x.toUInt64
def lo8 (x : UInt64) : UInt8 := x.toUInt8
def bx (x y : UInt8) : UInt8 := x ^^^ y
def bo (x y : UInt8) : UInt8 := x ||| y
def ba (x y : UInt8) : UInt8 := x &&& y
def n0T (x : UInt64) (n : Nat) : UInt64 := shl x n ||| shr x (64 - n)
end Mvp
namespace Go.Proofs.YtemcankmggmgoaaGreat
section
open Go.RowKit Go.Mv Mvp
theorem b0K : (Tryz.prog.info? 5).map (fun i => (i.zero, i.size, i.bytes)) = some (some (.int .u8 0), 1, 1) := by kernel_rfl
theorem c0F : (Tryz.prog.info? 5).map (·.size) = some 1 := by kernel_rfl
theorem f0V (s : ByteArray) : s.data.toList.length = s.size := by simp
end
section
open Go.RowKit Go.Mv Mvp
theorem v0K {a b : Bool} (h : a = b) : Ending.returned (.bool a) = .returned (.bool b) := by rw [h]
end
end Go.Proofs.YtemcankmggmgoaaGreat
namespace Go.Mv
open Go.RowKit Mvp
theorem f0F (x : UInt64) : x.toNat < 18446744073709551616 := x.toNat_lt
theorem l0Y (x : UInt64) (k : Nat) : (shr x k).toNat = x.toNat / 2 ^ k := by
 have := f0F x
 have h := Nat.div_le_self x.toNat (2 ^ k)
 simp only [shr, UInt64.toNat_ofNat']
 exact Nat.mod_eq_of_lt (Nat.lt_of_le_of_lt h this)
theorem l0Z (x : UInt64) (k : Nat) : (shl x k).toNat = x.toNat * 2 ^ k % 18446744073709551616 := by simp [shl]
theorem n0U (x : UInt64) (yk : IntKind) (k : Nat) : Op.shift .shl .u64 (x.toNat : Int) yk (k : Int) = pure (.int .u64 ((shl x k).toNat : Int)) := by
 rw [shift_shl_any _ _ _ _ ap16, l0Z]
 congr 2
 rw [IntKind.wrap_u64]
 simp only [Int.toNat_natCast, IntKind.bits]
 rcases Nat.lt_or_ge k 64 with h | h
 ·rw [Nat.min_eq_left ap16]
  simp
 ·rw [Nat.min_eq_right ap16]
  obtain ⟨j, rfl⟩ : ∃ j, k = 64 + j := ⟨k - 64, by omega⟩
  have e : x.toNat * 2 ^ (64 + j) = x.toNat * 2 ^ j * 18446744073709551616 := by
   have e64 : (2 : Nat) ^ 64 = 18446744073709551616 := by decide
   rw [Nat.pow_add, e64]; ac_rfl
  rw [e, Nat.mul_mod_left]
  have e2 : (2 : Int) ^ 64 = 18446744073709551616 := by decide
  rw [e2]
  omega
theorem s0k (x : UInt64) (yk : IntKind) (k : Nat) : Op.shift .shr .u64 (x.toNat : Int) yk (k : Int) = pure (.int .u64 ((shr x k).toNat : Int)) := by
 rw [shift_shr_any _ _ _ _ ap16, l0Y]
 congr 2
 simp only [Int.toNat_natCast, IntKind.bits]
 rcases Nat.lt_or_ge k 64 with h | h
 ·rw [Nat.min_eq_left ap16]
  simp
 ·rw [Nat.min_eq_right ap16]
  have hx := f0F x
  have e2 : (2 : Int) ^ 64 = 18446744073709551616 := by decide
  have h3 : x.toNat / 2 ^ k = 0 := Nat.div_eq_of_lt (Nat.lt_of_lt_of_le hx (by have := Nat.pow_le_pow_right (show 0 < 2 by omega) h; simpa using this))
  rw [e2, h3]
  omega
theorem z0o (x : UInt64) (yk : IntKind) (n : Nat) : Op.shift .shl .u64 (x.toNat : Int) yk (no_index (OfNat.ofNat n)) = pure (.int .u64 ((shl x n).toNat : Int)) := n0U x yk n
theorem z0p (x : UInt64) (yk : IntKind) (n : Nat) : Op.shift .shr .u64 (x.toNat : Int) yk (no_index (OfNat.ofNat n)) = pure (.int .u64 ((shr x n).toNat : Int)) := s0k x yk n
theorem n0V (x y : UInt64) : bits .xor .u64 (x.toNat : Int) (y.toNat : Int) = ((wx x y).toNat : Int) := by
 have := bits_xor_u64_nat x.toNat y.toNat (f0F x) (f0F y)
 rw [this]; simp [wx]
theorem y0w (x y : UInt64) : bits .or .u64 (x.toNat : Int) (y.toNat : Int) = ((wo x y).toNat : Int) := by
 have := bits_or_u64_nat x.toNat y.toNat (f0F x) (f0F y)
 rw [this]; simp [wo]
theorem z0q (x y : UInt64) : bits .and .u64 (x.toNat : Int) (y.toNat : Int) = ((wa x y).toNat : Int) := by
 have := bits_and_u64_nat x.toNat y.toNat (f0F x) (f0F y)
 rw [this]; simp [wa]
theorem s0l (x : UInt64) : bits .xor .u64 18446744073709551615 (x.toNat : Int) = ((wn x).toNat : Int) := by
 have e : (18446744073709551615 : Int) = (((18446744073709551615 : UInt64).toNat : Nat) : Int) := by decide
 have e1 : (18446744073709551615 : UInt64) = -1 := by decide
 rw [e, n0V, e1, wx, UInt64.neg_one_xor, wn]
theorem v0L (x : UInt64) : bits .xor .u64 (if IntKind.u64.signed = true then -1 else IntKind.u64.max) (x.toNat : Int) = ((wn x).toNat : Int) := s0l x
theorem s0m (k : Nat) : bits .and .u64 (k : Int) 63 = ((k % 64 : Nat) : Int) := by
 have h1 : BitVec.ofInt 64 (k : Int) = BitVec.ofNat 64 k := by simp
 have h2 : (BitVec.ofNat 64 k &&& BitVec.ofInt 64 63).toNat = k % 64 := by
  have e : (BitVec.ofInt 64 63).toNat = 2 ^ 6 - 1 := by decide
  rw [BitVec.toNat_and, e, Nat.and_two_pow_sub_one_eq_mod, BitVec.toNat_ofNat]
  omega
 show IntKind.u64.wrap (((BitVec.ofInt 64 (k : Int) &&& BitVec.ofInt 64 63).toNat : Nat) : Int) = _
 rw [h1, h2, IntKind.wrap_u64]
 omega
theorem s0n (x : UInt8) : IntKind.u64.wrap (x.toNat : Int) = ((wid x).toNat : Int) := by
 have := x.toNat_lt
 rw [IntKind.wrap_u64]; simp [wid]; omega
theorem q0L (x : UInt64) : IntKind.u8.wrap (x.toNat : Int) = ((lo8 x).toNat : Int) := by
 rw [IntKind.wrap_u8']; simp [lo8]
theorem k0I (x y : UInt8) : bits .xor .u8 (x.toNat : Int) (y.toNat : Int) = ((bx x y).toNat : Int) := by
 rw [u8_xor_nat _ _ x.toNat_lt y.toNat_lt]; simp [bx]
theorem v0M (x y : UInt8) : bits .and .u8 (x.toNat : Int) (y.toNat : Int) = ((ba x y).toNat : Int) := by
 rw [u8_and_nat _ _ x.toNat_lt y.toNat_lt]; simp [ba]
theorem z0r (x y : UInt8) : bits .or .u8 (x.toNat : Int) (y.toNat : Int) = ((bo x y).toNat : Int) := by
 rw [u8_or_nat _ _ x.toNat_lt y.toNat_lt]; simp [bo]
theorem f0W (k : Nat) : BitVec.ofInt 64 (k : Int) = BitVec.ofNat 64 k := by simp
theorem f0G (n : Nat) (h : n < 9223372036854775808) : IntKind.i64.wrap (n : Int) = (n : Int) := by rw [IntKind.wrap_i64]; omega
theorem v0N (a b : Nat) (ha : a < 9223372036854775808) (hb : b < 9223372036854775808) : a ^^^ b < 9223372036854775808 := Nat.xor_lt_two_pow (n := 63) ha hb
theorem z0s (a b : Nat) (ha : a < 9223372036854775808) (hb : b < 9223372036854775808) : bits .xor .i64 (a : Int) (b : Int) = ((a ^^^ b : Nat) : Int) := by
 show IntKind.i64.wrap (((BitVec.ofInt 64 (a : Int) ^^^ BitVec.ofInt 64 (b : Int)).toNat : Nat) : Int) = _
 rw [f0W, f0W, BitVec.toNat_xor, BitVec.toNat_ofNat, BitVec.toNat_ofNat, Nat.mod_eq_of_lt ap16, Nat.mod_eq_of_lt ap16]
 exact f0G _ (v0N a b ha hb)
theorem z0t (a b : Nat) (ha : a < 9223372036854775808) (hb : b < 9223372036854775808) : bits .and .i64 (a : Int) (b : Int) = ((a &&& b : Nat) : Int) := by
 show IntKind.i64.wrap (((BitVec.ofInt 64 (a : Int) &&& BitVec.ofInt 64 (b : Int)).toNat : Nat) : Int) = _
 rw [f0W, f0W, BitVec.toNat_and, BitVec.toNat_ofNat, BitVec.toNat_ofNat, Nat.mod_eq_of_lt ap16, Nat.mod_eq_of_lt ap16]
 exact f0G _ (Nat.lt_of_le_of_lt Nat.and_le_left ha)
theorem i0i (y : UInt8) : (wid y).toNat = y.toNat := by simp [wid]
theorem B0O (x : UInt64) (y : UInt8) : bits .or .u64 (x.toNat : Int) (y.toNat : Int) = ((wo x (wid y)).toNat : Int) := by rw [← y0w, i0i]
theorem z0u (x : UInt64) (y : UInt8) : bits .xor .u64 (x.toNat : Int) (y.toNat : Int) = ((wx x (wid y)).toNat : Int) := by rw [← n0V, i0i]
theorem z0v (x : UInt8) (yk : IntKind) (k : Nat) : Op.shift .shl .u64 (x.toNat : Int) yk (k : Int) = pure (.int .u64 ((shl (wid x) k).toNat : Int)) := by rw [← n0U, i0i]
theorem v0O (x : UInt64) (k : Nat) : IntKind.u64.wrap ((x.toNat : Int) * 2 ^ k) = ((shl x k).toNat : Int) := by
 rw [IntKind.wrap_u64, l0Z]; simp
theorem z0w (x : UInt64) (k : Nat) : (x.toNat : Int) / 2 ^ k = ((shr x k).toNat : Int) := by
 rw [l0Y]; simp
attribute [go_sem high] v0O z0w B0O z0u z0v z0o z0p n0U s0k n0V y0w z0q s0l v0L s0m s0n q0L k0I v0M z0r
section
variable {P : Program} {w : World} {ops : Array Oper} {rest : List Oper} {o : Oper} {a : Act} {Q : Exit → Act → World → Prop}
theorem m0a {x i : Operand} {t : TypeId} (hgd : o.guard = none) (ho : o.op = .index t x i) (ht : P.underlying t = some .string) {s : ByteArray} {ki : IntKind} {j : Int} (hx : a.eval x = .string s) (hi : a.eval i = .int ki j)
  (k : Nat) (hj : j = k) (hk : k < s.size) (y : UInt8) (hy : s.data.toList.getD k 0 = y) (h : wpList P ops Q rest (a.put o.dst (.int .u8 (y.toNat : Int))) w) : wpList P ops Q (o :: rest) a w := by
 refine wpList_plain hgd fun K hK => ?_
 subst hj
 have he : s[k]? = some y := by
  have h1 : s[k]? = some s[k] := getElem?_pos s k hk
  rw [h1]
  congr 1
  rw [← hy, List.getD_eq_getElem?_getD, List.getElem?_eq_getElem (by simpa using hk)]
  simp
  rfl
 have hr : (Instr.index t (.string s) (.int ki (k : Int))).run P w = .ok (.int .u8 (y.toNat : Int)) w := by
  simp [Instr.index, asIntOf, run_underlying ht, he]
 unfold Oper.wp execOp
 simp only [ho, hx, hi, Sem.run_bind, Sem.run_pure, Result.andThen_ok, hr]
 exact hK _ _ h
end
theorem q0M {P : Program} {f : FuncId} {args : Array Value} {w : World} {a n : Nat} {v : Value}
  (h : Calls P f args (w.drewN (a + n)) fun e w' => e = .returned v ∧ w' = w.drewN (a + n)) :
  Calls P f args (w.drewN (a + n)) fun e w'' => e = .returned v ∧ ∃ m, w'' = w.drewN (a + m) :=
 h.mono fun _ _ h => ⟨h.1, n, h.2⟩
end Go.Mv
namespace Mvp
def e0f (i : Nat) : Nat := i / 5 + 5 * ((2 * (i % 5) + 3 * (i / 5)) % 5)
def k0J (s c : List UInt64) (i : Nat) : List UInt64 := c.set (i % 5) (c.getD (i % 5) 0 ^^^ s.getD i 0)
def p0p (s : List UInt64) (k : Nat) : List UInt64 := (List.range k).foldl (k0J s) [0, 0, 0, 0, 0]
def k0K (s col : List UInt64) (by_ : List Nat) (m : List UInt64) (i : Nat) : List UInt64 :=
 m.set (e0f i) (n0T (s.getD i 0 ^^^ (col.getD ((i + 4) % 5) 0 ^^^ n0T (col.getD ((i + 1) % 5) 0) 1)) (by_.getD i 0))
def q0N (s col : List UInt64) (by_ : List Nat) (k : Nat) : List UInt64 := (List.range k).foldl (k0K s col by_) (List.replicate 25 0)
def i0j (m : List UInt64) (y : Nat) (s : List UInt64) (x : Nat) : List UInt64 :=
 s.set (y + x) (m.getD (y + x) 0 ^^^ (~~~ (m.getD (y + (x + 1) % 5) 0) &&& m.getD (y + (x + 2) % 5) 0))
def e0g (m s : List UInt64) (y k : Nat) : List UInt64 := (List.range k).foldl (i0j m y) s
def m0b (m s : List UInt64) (k : Nat) : List UInt64 := (List.range k).foldl (fun s y => e0g m s (5 * y) 5) s
def i0k (by_ : List Nat) (s : List UInt64) (c : UInt64) : List UInt64 :=
 let t := m0b (q0N s (p0p s 25) by_ 25) s 5
 t.set 0 (t.getD 0 0 ^^^ c)
def b0x (by_ : List Nat) (rc : Nat → UInt64) (s : List UInt64) (k : Nat) : List UInt64 := (List.range k).foldl (fun s r => i0k by_ s (rc r)) s
def b0r (x y : Nat) : Nat := x % 5 + 5 * (y % 5)
def h0F (s : List UInt64) (x : Nat) (c : List UInt64) (y : Nat) : List UInt64 := c.set x (c.getD x 0 ^^^ s.getD (b0r x y) 0)
def c0z (s c : List UInt64) (x k : Nat) : List UInt64 := (List.range k).foldl (h0F s x) c
def j0y (s : List UInt64) (k : Nat) : List UInt64 := (List.range k).foldl (fun c x => c0z s c x 5) [0, 0, 0, 0, 0]
def h0G (s : List UInt64) (turn : List Nat) (x : Nat) (d : UInt64) (m : List UInt64) (y : Nat) : List UInt64 :=
 m.set (b0r y (2 * x + 3 * y)) (n0T (s.getD (b0r x y) 0 ^^^ d) (turn.getD (b0r x y) 0))
def d0i (s : List UInt64) (turn : List Nat) (m : List UInt64) (x : Nat) (d : UInt64) (k : Nat) : List UInt64 := (List.range k).foldl (h0G s turn x d) m
def dR (col : List UInt64) (x : Nat) : UInt64 := col.getD ((x + 4) % 5) 0 ^^^ n0T (col.getD ((x + 1) % 5) 0) 1
def m0c (s : List UInt64) (turn : List Nat) (col : List UInt64) (k : Nat) : List UInt64 := (List.range k).foldl (fun m x => d0i s turn m x (dR col x) 5) (List.replicate 25 0)
def h0H (m : List UInt64) (x : Nat) (o : List UInt64) (y : Nat) : List UInt64 :=
 o.set (b0r x y) (m.getD (b0r x y) 0 ^^^ (~~~ (m.getD (b0r (x + 1) y) 0) &&& m.getD (b0r (x + 2) y) 0))
def d0j (m o : List UInt64) (x k : Nat) : List UInt64 := (List.range k).foldl (h0H m x) o
def m0d (m : List UInt64) (k : Nat) : List UInt64 := (List.range k).foldl (fun o x => d0j m o x 5) (List.replicate 25 0)
def f0X (turn : List Nat) (s : List UInt64) (c : UInt64) : List UInt64 :=
 let t := m0d (m0c s turn (j0y s 5) 5) 5
 t.set 0 (t.getD 0 0 ^^^ c)
def f0C (turn : List Nat) (rc : Nat → UInt64) (s : List UInt64) (k : Nat) : List UInt64 := (List.range k).foldl (fun s r => f0X turn s (rc r)) s
theorem B0P (s : List UInt64) (h : s.length = 25) : ∃ a0 a1 a2 a3 a4 a5 a6 a7 a8 a9 a10 a11 a12 a13 a14 a15 a16 a17 a18 a19 a20 a21 a22 a23 a24, s = [a0, a1, a2, a3, a4, a5, a6, a7, a8, a9, a10, a11, a12, a13, a14, a15, a16, a17, a18, a19, a20, a21, a22, a23, a24] := by
 match s, h with
 | [a0, a1, a2, a3, a4, a5, a6, a7, a8, a9, a10, a11, a12, a13, a14, a15, a16, a17, a18, a19, a20, a21, a22, a23, a24], _ => exact ⟨_, _, _, _, _, _, _, _, _, _, _, _, _, _, _, _, _, _, _, _, _, _, _, _, _, rfl⟩
theorem v0P (s : List UInt64) (h : s.length = 25) : p0p s 25 = j0y s 5 := by
 obtain ⟨a0, a1, a2, a3, a4, a5, a6, a7, a8, a9, a10, a11, a12, a13, a14, a15, a16, a17, a18, a19, a20, a21, a22, a23, a24, rfl⟩ := B0P s h
 kernel_rfl
theorem v0Q (s col : List UInt64) (t : List Nat) : q0N s col t 25 = m0c s t col 5 := by
 kernel_rfl
theorem v0R (m s : List UInt64) (h : s.length = 25) : m0b m s 5 = m0d m 5 := by
 obtain ⟨a0, a1, a2, a3, a4, a5, a6, a7, a8, a9, a10, a11, a12, a13, a14, a15, a16, a17, a18, a19, a20, a21, a22, a23, a24, rfl⟩ := B0P s h
 kernel_rfl
theorem q0O (t : List Nat) (s : List UInt64) (c : UInt64) (h : s.length = 25) : i0k t s c = f0X t s c := by
 unfold i0k f0X
 rw [v0P s h, v0Q, v0R _ s h]
theorem m0e {α β : Type} (P : α → Prop) (f : α → β → α) (hf : ∀ a b, P a → P (f a b)) (l : List β) : ∀ a, P a → P (l.foldl f a) := by
 induction l with
 | nil => intro a h; exact h
 | cons b l ih => intro a h; exact ih _ (hf _ _ h)
theorem k0L (m s : List UInt64) (k : Nat) : (m0b m s k).length = s.length := by
 refine m0e (fun l : List UInt64 => l.length = s.length) _ (fun a y h => ?_) _ _ rfl
 refine m0e (fun l : List UInt64 => l.length = s.length) _ (fun b x h => ?_) _ _ h
 simp [i0j, h]
theorem q0P (t : List Nat) (s : List UInt64) (c : UInt64) : (i0k t s c).length = s.length := by simp [i0k, k0L]
theorem g0W (t : List Nat) (rc : Nat → UInt64) (s : List UInt64) (k : Nat) : b0x t rc s (k + 1) = i0k t (b0x t rc s k) (rc k) := by
 simp [b0x, List.range_succ]
theorem g0X (t : List Nat) (rc : Nat → UInt64) (s : List UInt64) (k : Nat) : f0C t rc s (k + 1) = f0X t (f0C t rc s k) (rc k) := by
 simp [f0C, List.range_succ]
theorem i0l (t : List Nat) (rc : Nat → UInt64) (s : List UInt64) (k : Nat) : (b0x t rc s k).length = s.length := by
 induction k with
 | zero => simp [b0x]
 | succ k ih => rw [g0W, q0P, ih]
theorem s0o (t : List Nat) (rc rc' : Nat → UInt64) (s : List UInt64) (h : s.length = 25) (n : Nat) (hrc : ∀ r, r < n → rc r = rc' r) : b0x t rc s n = f0C t rc' s n := by
 induction n with
 | zero => simp [b0x, f0C]
 | succ k ih =>
  rw [g0W, g0X, ← ih (fun r hr => hrc r ap16), hrc k ap16]
  exact q0O _ _ _ (by rw [i0l, h])
def n0W : Nat → Nat
 | 0 => 1
 | n + 1 => if 2 * n0W n > 255 then (2 * n0W n) ^^^ 369 else 2 * n0W n
theorem z0x (n : Nat) : n0W n < 256 := by
 have h : ∀ r, r < 256 → (if 2 * r > 255 then (2 * r) ^^^ 369 else 2 * r) < 256 := by decide +kernel
 induction n with
 | zero => decide
 | succ n ih => exact h _ ih
def E0B (t : Nat) : Nat := n0W t % 2
def D0L (t : Nat) : UInt64 := UInt64.ofNat (E0B t)
def f0Y (r : Nat) (out : UInt64) (j : Nat) : UInt64 := out ||| shl (D0L (j + 7 * r)) (2 ^ j - 1)
def rcR (r k : Nat) : UInt64 := (List.range k).foldl (f0Y r) 0
def n0X : List Nat := [
 0, 0, 0, 0, 0, 0, 0, 1, 0, 0, 0, 0, 0, 0, 0x80, 0x82, 0x80, 0, 0, 0, 0, 0, 0x80, 0x8a, 0x80, 0, 0, 0, 0x80, 0, 0x80, 0,
 0, 0, 0, 0, 0, 0, 0x80, 0x8b, 0, 0, 0, 0, 0x80, 0, 0, 1, 0x80, 0, 0, 0, 0x80, 0, 0x80, 0x81, 0x80, 0, 0, 0, 0, 0, 0x80, 9,
 0, 0, 0, 0, 0, 0, 0, 0x8a, 0, 0, 0, 0, 0, 0, 0, 0x88, 0, 0, 0, 0, 0x80, 0, 0x80, 9, 0, 0, 0, 0, 0x80, 0, 0, 0xa,
 0, 0, 0, 0, 0x80, 0, 0x80, 0x8b, 0x80, 0, 0, 0, 0, 0, 0, 0x8b, 0x80, 0, 0, 0, 0, 0, 0x80, 0x89, 0x80, 0, 0, 0, 0, 0, 0x80, 3,
 0x80, 0, 0, 0, 0, 0, 0x80, 2, 0x80, 0, 0, 0, 0, 0, 0, 0x80, 0, 0, 0, 0, 0, 0, 0x80, 0xa, 0x80, 0, 0, 0, 0x80, 0, 0, 0xa,
 0x80, 0, 0, 0, 0x80, 0, 0x80, 0x81, 0x80, 0, 0, 0, 0, 0, 0x80, 0x80, 0, 0, 0, 0, 0x80, 0, 0, 1, 0x80, 0, 0, 0, 0x80, 0, 0x80, 8]
def n0Y (r : Nat) (c : UInt64) (n : Nat) : UInt64 := shl c 8 ||| (UInt8.ofNat (n0X.getD (8 * r + n) 0)).toUInt64
def rcP (r k : Nat) : UInt64 := (List.range k).foldl (n0Y r) 0
theorem z0y : ∀ r, r < 24 → rcP r 8 = rcR r 7 := by decide +kernel
def xy : Nat → Nat × Nat
 | 0 => (1, 0)
 | t + 1 => ((xy t).2, (2 * (xy t).1 + 3 * (xy t).2) % 5)
def f0Z (l : List Nat) (t : Nat) : List Nat := l.set ((xy t).1 + 5 * (xy t).2) ((t + 1) * (t + 2) / 2 % 64)
def a0u (k : Nat) : List Nat := (List.range k).foldl f0Z (List.replicate 25 0)
theorem _root_.ap15 {p : Prop} (h : p := by decide) : p := h
theorem B0Q (t : Nat) : (xy t).1 < 5 ∧ (xy t).2 < 5 := by
 induction t with
 | zero => decide
 | succ t ih => exact ⟨ih.2, Nat.mod_lt _ ap15⟩
def c0p (s : List UInt64) (i : Nat) (x : UInt8) : List UInt64 := s.set (i / 8) (wx (s.getD (i / 8) 0) (shl (wid x) (8 * (i % 8))))
def g0a (s : List UInt64) (b : List UInt8) (k : Nat) : List UInt64 := (List.range k).foldl (fun s i => c0p s i (b.getD i 0)) s
def e0h (s : List UInt64) (i : Nat) : UInt8 := lo8 (shr (s.getD (i / 8) 0) (8 * (i % 8)))
def toB (s : List UInt64) (n : Nat) : List UInt8 := (List.range n).map (e0h s)
theorem e0X (s : List UInt64) (b : List UInt8) (k : Nat) : g0a s b (k + 1) = c0p (g0a s b k) k (b.getD k 0) := by simp [g0a, List.range_succ]
theorem h0I (s : List UInt64) (b : List UInt8) (k : Nat) : (g0a s b k).length = s.length := by
 induction k with
 | zero => simp [g0a]
 | succ k ih => rw [e0X]; simp [c0p, ih]
theorem b0s (s : List UInt64) (n : Nat) : (toB s n).length = n := by simp [toB]
end Mvp
namespace Go.Proofs.YtemcankmggmgoaaGreat
section
open Go.RowKit Go.Mv Mvp
theorem k0M {k : IntKind} {a b : Int} (h : a = b) : Ending.returned (.int k a) = .returned (.int k b) := by rw [h]
theorem v0S (x : UInt64) (k : Nat) (hk : k < 64) : wo (shl x (k % 64)) (shr x (64 - k % 64)) = n0T x k := by
 rw [Nat.mod_eq_of_lt hk]; rfl
theorem s0p (x : UInt64) (k : Nat) (hk : k < 64) (w : World) :
  Calls Tryz.prog 208 #[.int .u64 (x.toNat : Int), .int .i64 (k : Int)] w fun e w' => e = .returned (.int .u64 ((n0T x k).toNat : Int)) ∧ w = w' := by
 go_enter Tryz.func208, Tryz.ntmps208
 go_wp2
 go_ret
 exact ⟨k0M (by rw [← v0S x k hk]), rfl⟩
theorem p0q (x : UInt64) (k : Nat) (hk : k < 64) (w : World) :
  Calls Tryz.prog 212 #[.int .u64 (x.toNat : Int), .int .i64 (k : Int)] w fun e w' => e = .returned (.int .u64 ((n0T x k).toNat : Int)) ∧ ∃ n, w' = w.drewN n := by
 go_enter Tryz.func212, Tryz.ntmps212
 go_wp2
 go_quiet (fail)
 go_wp2
 go_ret
 exact ⟨rfl, nq, rfl⟩
theorem i0m (x y : Int) (w : World) (hx : 0 ≤ x) (hx' : x ≤ 1000) (hy : 0 ≤ y) (hy' : y ≤ 1000) :
  Calls Tryz.prog 211 #[.int .i64 x, .int .i64 y] w fun e w' => e = .returned (.int .i64 ((b0r x.toNat y.toNat : Nat) : Int)) ∧ w = w' := by
 go_enter Tryz.func211, Tryz.ntmps211
 go_wp2
 go_ret
 exact ⟨k0M (by unfold b0r; omega), rfl⟩
theorem q0Q (i : Nat) (w : World) (hi : i ≤ 1000) :
  Calls Tryz.prog 209 #[.int .i64 (i : Int)] w fun e w' => e = .returned (.int .i64 ((e0f i : Nat) : Int)) ∧ w = w' := by
 go_enter Tryz.func209, Tryz.ntmps209
 go_wp2
 go_ret
 exact ⟨k0M (by unfold e0f; omega), rfl⟩
theorem z0z (t : Int) (w : World) (hx : 0 ≤ t) (hx' : t ≤ 1000) :
  Calls Tryz.prog 213 #[.int .i64 t] w fun e w' => e = .returned (.int .u64 ((D0L t.toNat).toNat : Int)) ∧ w = w' := by
 go_enter Tryz.func213, Tryz.ntmps213
 go_wp2
 go_loop [3, 4] (fun r i => ∃ k : Nat, (k : Int) ≤ t ∧ i = .int .i64 k ∧ r = .int .i64 (n0W k : Nat)) (fun _ i => (t - intOf i).toNat)
 case atStart => exact ⟨0, by omega, rfl, rfl⟩
 case round =>
  obtain ⟨k, hk, rfl, rfl⟩ := hrel
  have hb := z0x k
  by_cases hlt : (k : Int) < t
  ·by_cases hc : 255 < 2 * n0W k
   ·go_wp2
    go_round
    case rel =>
     refine ⟨k + 1, by omega, by go_num, ?_⟩
     have e := z0s (2 * n0W k) 369 ap16 ap16
     have e2 : n0W (k + 1) = (2 * n0W k) ^^^ 369 := by rw [n0W, if_pos hc]
     rw [e2, ← e]; rfl
    case measure => simp [intOf]; omega
   ·go_wp2
    go_round
    case rel =>
     refine ⟨k + 1, by omega, by go_num, ?_⟩
     have e2 : n0W (k + 1) = 2 * n0W k := by rw [n0W, if_neg hc]
     rw [e2]; simp
    case measure => simp [intOf]; omega
  ·go_wp2
   go_ret
   have hkt : t.toNat = k := by omega
   refine ⟨k0M ?_, rfl⟩
   have e := z0t (n0W k) 1 ap16 ap16
   rw [show (1 : Int) = ((1 : Nat) : Int) from rfl, e, IntKind.wrap_u64, hkt, D0L, E0B, nat_mask1]
   simp
end
section
open Go.RowKit Go.Mv Mvp
theorem v0T (r k : Nat) : rcP r (k + 1) = n0Y r (rcP r k) k := by simp [rcP, List.range_succ]
theorem e0A (r k : Nat) : rcR r (k + 1) = f0Y r (rcR r k) k := by simp [rcR, List.range_succ]
theorem q0R (r : Nat) (hr : r < 24) (w : World) :
  Calls Tryz.prog 210 #[.int .i64 (r : Int)] w fun e w' => e = .returned (.int .u64 ((rcP r 8).toNat : Int)) ∧ w = w' := by
 go_enter Tryz.func210, Tryz.ntmps210
 go_wp2
 go_loop [2, 4] (fun c i => ∃ k : Nat, k ≤ 8 ∧ i = .int .i64 k ∧ c = .int .u64 ((rcP r k).toNat : Int)) (fun _ i => (8 - intOf i).toNat)
 case atStart => exact ⟨0, by omega, rfl, rfl⟩
 case round =>
  obtain ⟨k, hk, rfl, rfl⟩ := hrel
  by_cases hlt : k < 8
  ·go_wp2_with (first | (with_reducible refine wSk 13 ?_))
   refine m0a rfl rfl Tryz.underlying9 rfl rfl (8 * r + k) ap17 ?_ (UInt8.ofNat (n0X.getD (8 * r + k) 0)) ?_ ?_
   ·exact Nat.lt_of_lt_of_le (show 8 * r + k < 192 by omega) (by decide +kernel)
   ·generalize hj : 8 * r + k = j
    have hj' : j < 192 := by omega
    clear hj
    revert j
    decide +kernel
   generalize hy : UInt8.ofNat (n0X.getD (8 * r + k) 0) = y
   have HY := qH hy; clear hy
   go_wp2
   go_round
   case rel => exact ⟨k + 1, by omega, by go_num, by rw [v0T, n0Y, HY.out]; rfl⟩
   case measure => simp [intOf]; omega
  ·go_wp2
   go_ret
   have : k = 8 := by omega
   subst this
   exact ⟨rfl, rfl⟩
theorem q0S (r : Nat) (hr : r < 24) (w : World) :
  Calls Tryz.prog 205 #[.int .i64 (r : Int)] w fun e w' => e = .returned (.int .u64 ((rcR r 7).toNat : Int)) ∧ w = w' := by
 go_enter Tryz.func205, Tryz.ntmps205
 go_wp2
 go_loop [3, 4] (fun c i => ∃ k : Nat, k ≤ 7 ∧ i = .int .i64 k ∧ c = .int .u64 ((rcR r k).toNat : Int)) (fun _ i => (7 - intOf i).toNat)
 case atStart => exact ⟨0, by omega, rfl, rfl⟩
 case round =>
  obtain ⟨k, hk, rfl, rfl⟩ := hrel
  by_cases hlt : k < 7
  ·obtain rfl | rfl | rfl | rfl | rfl | rfl | rfl : k = 0 ∨ k = 1 ∨ k = 2 ∨ k = 3 ∨ k = 4 ∨ k = 5 ∨ k = 6 := by omega
   all_goals
    go_wp2_with fail
    refine (z0z _ _ ap16 ap16).mono ?_
    rintro e w' ⟨rfl, rfl⟩
    go_wp2
    go_round
   case rel => exact ⟨1, by omega, by go_num, by rw [e0A, f0Y, Nat.zero_add]; rfl⟩
   case measure => simp [intOf]
   case rel => exact ⟨2, by omega, by go_num, by rw [e0A, f0Y]; rfl⟩
   case measure => simp [intOf]
   case rel => exact ⟨3, by omega, by go_num, by rw [e0A, f0Y]; rfl⟩
   case measure => simp [intOf]
   case rel => exact ⟨4, by omega, by go_num, by rw [e0A, f0Y]; rfl⟩
   case measure => simp [intOf]
   case rel => exact ⟨5, by omega, by go_num, by rw [e0A, f0Y]; rfl⟩
   case measure => simp [intOf]
   case rel => exact ⟨6, by omega, by go_num, by rw [e0A, f0Y]; rfl⟩
   case measure => simp [intOf]
   case rel => exact ⟨7, by omega, by go_num, by rw [e0A, f0Y]; rfl⟩
   case measure => simp [intOf]
  ·go_wp2
   go_ret
   have : k = 7 := by omega
   subst this
   exact ⟨rfl, rfl⟩
end
end Go.Proofs.YtemcankmggmgoaaGreat
namespace Go.Mv
open Go.RowKit
variable {P : Program}
theorem Has.setCells {g : Nat} {T : TypeId} : ∀ (cs : List Value) (o : Nat) (L : List Value) (w : World), Has w g L T → o + cs.length ≤ L.length → Has (w.setCells g o cs) g (splice L o cs) T ∧ Fr (One g) w (w.setCells g o cs) ∧ (w.setCells g o cs).heap.size = w.heap.size
 | [], o, L, w, h, _ => ⟨by rw [j0L]; exact h, Fr.refl _ _, rfl⟩
 | v :: cs, o, L, w, h, hl => by
  simp only [List.length_cons] at hl
  obtain ⟨h1, h2, h3⟩ := Has.setCells cs (o + 1) (L.set o v) (w.setCell ⟨g, o, none⟩ v) (h.set o v) (by simp; omega)
  rw [i0e L o v cs ap16] at h1
  refine ⟨h1, ((Fr.refl (One g) w).setCell g o none v (fun _ => rfl)).trans h2 (fun _ _ t => t), ?_⟩
  show ((w.setCell ⟨g, o, none⟩ v).setCells g (o + 1) cs).heap.size = _
  rw [h3]; simp [World.setCell]
theorem Has.range {w : World} {g : Nat} {L : List Value} {T : TypeId} (h : Has w g L T) (o : Nat) (cs : List Value) (hcs : (L.drop o).take cs.length = cs) : w.rangeAt g o cs := by
 intro j v hv
 rw [h.get]
 have : j < cs.length := by
  rcases Nat.lt_or_ge j cs.length with k | k
  ·exact k
  ·simp [List.getElem?_eq_none k] at hv
 rw [← hcs, List.getElem?_take, if_pos this, List.getElem?_drop] at hv
 exact hv
theorem Has.there {w : World} {g : Nat} {L : List Value} {T : TypeId} (h : Has w g L T) (o n : Nat) (hn : o + n ≤ L.length) : w.there g o n := by
 intro j hj
 obtain ⟨v, h1, h2⟩ := h.ready (i := o + j) ap16
 exact ⟨by rw [h1]; rfl, h2⟩
section
variable {w : World} {ops : Array Oper} {rest : List Oper} {o : Oper} {a : Act} {Q : Exit → Act → World → Prop}
theorem c0c {ty : TypeId} {x : Operand} (hgd : o.guard = none) (ho : o.op = .load ty x) {n : Nat} {e : TypeId} (hu : P.underlying ty = some (.array n e)) {g p : Nat} (hx : a.eval x = .pointer (some ⟨g, p, none⟩))
  {L : List Value} {T : TypeId} (hg : Has w g L T) (cs : List Value) (hcs : (L.drop p).take cs.length = cs) (hi : (P.info? ty).map (·.size) = some cs.length)
  (h : wpList P ops Q rest (a.put o.dst (.agg cs.toArray)) w) : wpList P ops Q (o :: rest) a w :=
 wpList_load_mid hgd ty x ho g p hx cs _ (hg.range p cs hcs) hu rfl hi h
theorem c0G {ty : TypeId} {x y : Operand} (hgd : o.guard = none) (ho : o.op = .store ty x y) {g p : Nat} (hx : a.eval x = .pointer (some ⟨g, p, none⟩)) {cs : List Value} (hy : a.eval y = .agg cs.toArray)
  {L : List Value} {T : TypeId} (hg : Has w g L T) (hn : p + cs.length ≤ L.length) (hi : (P.info? ty).map (·.size) = some cs.length) (h1 : ∀ v ∈ cs, v.oneCell' = true)
  (h : ∀ w', Has w' g (splice L p cs) T → Fr (One g) w w' → w'.heap.size = w.heap.size → wpList P ops Q rest (a.put o.dst undef) w') : wpList P ops Q (o :: rest) a w := by
 obtain ⟨k1, k2, k3⟩ := Has.setCells cs p L w hg hn
 exact wpList_store_mid hgd ty x y ho g p cs.toArray hx hy (by simpa using hg.there p cs.length hn) (by simpa using hi) (all_oneCell_toArray h1) (by simpa using h _ k1 k2 k3)
end
theorem c0A (L cs : List Value) (h : cs.length = L.length) : splice L 0 cs = cs := by
 simp [splice, h]
theorem a0v {fn : Func} {p : Tmp} {ty : TypeId} (h : fn.results = #[.cell p ty]) {tmps : Array Value} {w : World} {g : Nat} {L : List Value} {T : TypeId}
  (hp : tmps.getD p undef = .pointer (some ⟨g, 0, none⟩)) (hg : Has w g L T) {n : Nat} {e : TypeId} (hu : P.underlying ty = some (.array n e)) (hi : (P.info? ty).map (·.size) = some L.length) :
  (results fn tmps).run P w = .ok (.agg L.toArray) w := by
 obtain ⟨lo, hi', hh, -⟩ := hg
 exact results_cell_row h tmps w g T L.toArray _ _ hp hh hu rfl (by simpa using hi)
open Mvp in
theorem Has.fillB {w : World} {g : Nat} {T : TypeId} {F I : List UInt8} {k : Nat} (h : Has w g (bs (fill F I k)) T) (hl : F.length = I.length) (hk : k < F.length) : Has (w.setCell ⟨g, k, none⟩ (.int .u8 ((F.getD k 0).toNat : Int))) g (bs (fill F I (k + 1))) T := by
 have := h.set k (.int .u8 ((F.getD k 0).toNat : Int))
 rwa [h0m, k0H _ _ _ hl hk] at this
section
variable {w : World} {ops : Array Oper} {rest : List Oper} {o : Oper} {a : Act} {Q : Exit → Act → World → Prop}
theorem e0B {e : TypeId} (hgd : o.guard = none) (ho : o.op = .alloc e) {z : Value} (hi : (P.info? e).map (·.zero) = some (some z)) (L : List Value) (hL : z.cells.toList = L)
  (h : ∀ w', Has w' w.heap.size L e → Fr Nob w w' → w'.heap.size = w.heap.size + 1 → wpList P ops Q rest (a.put o.dst (.pointer (some ⟨w.heap.size, 0, none⟩))) w') : wpList P ops Q (o :: rest) a w := by
 refine wpList_plain hgd fun K hK => ?_
 obtain ⟨i, hi1, hz⟩ : ∃ i, P.info? e = some i ∧ i.zero = some z := by simpa using hi
 have hr : (Instr.alloc e true (.tuple #[])).run P w = .ok (.pointer (some ⟨w.heap.size, 0, none⟩)) (w.alloc (.cells z.cells e)) := by
  simp [Instr.alloc, zeroValue, typeInfo, hi1, hz, newVar, newRow]
 unfold Oper.wp execOp
 simp only [ho, Sem.run_bind, Sem.run_pure, Result.andThen_ok, hr]
 refine hK _ _ (h _ ?_ ((Fr.refl _ w).alloc _) ap17)
 have := Has.new w z.cells e
 rwa [hL] at this
end
section
variable {w : World} {ops : Array Oper} {rest : List Oper} {o : Oper} {a : Act} {Q : Exit → Act → World → Prop}
theorem b0l (k : IntKind) (n y : Nat) (code : BoundsCode) (h : n ≤ y) : (Instr.sliceBound (.int k (n : Int)) y code).run P w = .ok n w := by
 have : ((n : Int) ≤ (y : Int)) := by omega
 simp [Instr.sliceBound, asIntOf, this]
theorem z0A {ty : TypeId} {x lo hi mx : Operand} (hgd : o.guard = none) (ho : o.op = .slice ty x (some lo) (some hi) (some mx)) {n : Nat} {e : TypeId} (hu : P.underlying ty = some (.array n e)) (hsz : (P.info? e).map (·.size) = some 1)
  {g p : Nat} (hx : a.eval x = .pointer (some ⟨g, p, none⟩)) {kl kh km : IntKind} {il ih im : Int} (hl : a.eval lo = .int kl il) (hh : a.eval hi = .int kh ih) (hm : a.eval mx = .int km im)
  (l h m : Nat) (el : il = l) (eh : ih = h) (em : im = m) (h1 : l < m) (h2 : l ≤ h) (h3 : h ≤ m) (h4 : m ≤ n)
  (hK : wpList P ops Q rest (a.put o.dst (.slice (some ⟨g, p + l, none⟩) (h - l) (m - l))) w) : wpList P ops Q (o :: rest) a w := by
 refine wpList_plain hgd fun K hK' => ?_
 obtain ⟨i, hi1, hi2⟩ : ∃ i, P.info? e = some i ∧ i.size = 1 := by simpa using hsz
 subst el eh em
 have hr : (Instr.sliceAt ty (.pointer (some ⟨g, p, none⟩)) (some (.int kl (l : Int))) (some (.int kh (h : Int))) (some (.int km (m : Int)))).run P w = .ok (.slice (some ⟨g, p + l, none⟩) (h - l) (m - l)) w := by
  have hne : ¬ m = l := by omega
  simp [Instr.sliceAt, run_underlying hu, Instr.sliceBounds, b0l, h2, h3, h4, sizeOf, typeInfo, hi1, hi2, hne, d0S, Instr.sureAddr]
 unfold Oper.wp execOp
 simp only [ho, hx, hl, hh, hm, Option.map_some, Sem.run_bind, Sem.run_pure, Result.andThen_ok, hr]
 exact hK' _ _ hK
def c0H (p : Option Addr) (l m : Nat) : Option Addr := if m = l then p else p.map (·.add l)
theorem k0N {w : World} {p : Option Addr} {n : Nat} {vs : List Value} (hr : Rd w p n vs) (l h m : Nat) (h2 : l ≤ h) (h3 : h ≤ m) (h4 : h ≤ n) : Rd w (c0H p l m) (h - l) ((vs.drop l).take (h - l)) := by
 have hlen := hr.len
 refine ⟨by simp; omega, ?_⟩
 rcases Nat.eq_zero_or_pos (h - l) with h0 | h0
 ·exact .inl h0
 ·obtain ⟨b, o, rfl, hc⟩ := hr.at ap16
  refine .inr ⟨b, o + l, ?_, hc.sub l (h - l)⟩
  simp [c0H, show ¬ m = l by omega, d0S]
theorem n0Z {p : Option Addr} {l m : Nat} {x : Addr} (h : c0H p l m = some x) : ∃ y, p = some y ∧ y.block = x.block := by
 unfold c0H at h
 split at h
 ·exact ⟨x, h, rfl⟩
 ·cases p with
  | none => cases h
  | some y =>
   refine ⟨y, rfl, ?_⟩
   simp only [Option.map_some, Option.some.injEq] at h
   subst h
   unfold Addr.add
   split <;> rfl
theorem s0q {S : Nat → Prop} {p : Option Addr} (h : Off S p) (l m : Nat) : Off S (c0H p l m) := by
 intro x hx
 obtain ⟨y, hy, e⟩ := n0Z hx
 rw [← e]; exact h y hy
theorem h0n {ty : TypeId} {x : Operand} {lo hi : Option Operand} (hgd : o.guard = none) (ho : o.op = .slice ty x lo hi none) {e : TypeId} (hu : P.underlying ty = some (.slice e)) (hsz : (P.info? e).map (·.size) = some 1)
  {p : Option Addr} {n c : Nat} (hx : a.eval x = .slice p n c) (l h : Nat) (hl : lo.elim (l = 0) (fun y => ∃ k, a.eval y = .int k (l : Int))) (hh : hi.elim (h = n) (fun y => ∃ k, a.eval y = .int k (h : Int))) (h2 : l ≤ h) (h3 : h ≤ c)
  (hK : wpList P ops Q rest (a.put o.dst (.slice (c0H p l c) (h - l) (c - l))) w) : wpList P ops Q (o :: rest) a w := by
 refine wpList_plain hgd fun K hK' => ?_
 obtain ⟨i, hi1, hi2⟩ : ∃ i, P.info? e = some i ∧ i.size = 1 := by simpa using hsz
 have hr : (Instr.sliceAt ty (.slice p n c) (lo.map a.eval) (hi.map a.eval) none).run P w = .ok (.slice (c0H p l c) (h - l) (c - l)) w := by
  cases lo with
  | none =>
   simp only [Option.elim] at hl
   subst hl
   cases hi with
   | none =>
    simp only [Option.elim] at hh
    subst hh
    simp [Instr.sliceAt, Instr.slice, run_underlying hu, Instr.sliceBounds, sizeOf, typeInfo, hi1, c0H]
   | some y =>
    obtain ⟨k, hk⟩ := hh
    simp [Instr.sliceAt, Instr.slice, run_underlying hu, Instr.sliceBounds, b0l, h3, sizeOf, typeInfo, hi1, c0H, hk]
  | some z =>
   obtain ⟨kz, hkz⟩ := hl
   cases hi with
   | none =>
    simp only [Option.elim] at hh
    subst hh
    simp [Instr.sliceAt, Instr.slice, run_underlying hu, Instr.sliceBounds, b0l, h2, sizeOf, typeInfo, hi1, hi2, c0H, hkz]
   | some y =>
    obtain ⟨k, hk⟩ := hh
    simp [Instr.sliceAt, Instr.slice, run_underlying hu, Instr.sliceBounds, b0l, h2, h3, sizeOf, typeInfo, hi1, hi2, c0H, hk, hkz]
 unfold Oper.wp execOp
 simp only [ho, hx, Option.map_none, Sem.run_bind, Sem.run_pure, Result.andThen_ok, hr]
 exact hK' _ _ hK
theorem z0B {ty : TypeId} {x : Operand} {lo : Option Operand} {hi mx : Operand} (hgd : o.guard = none) (ho : o.op = .slice ty x lo (some hi) (some mx)) {e : TypeId} (hu : P.underlying ty = some (.slice e)) (hsz : (P.info? e).map (·.size) = some 1)
  {p : Option Addr} {n c : Nat} (hx : a.eval x = .slice p n c) (l h m : Nat) (hl : lo.elim (l = 0) (fun y => ∃ k, a.eval y = .int k (l : Int))) {kh km : IntKind} {ih im : Int} (hh : a.eval hi = .int kh ih) (hm : a.eval mx = .int km im) (eh : ih = h) (em : im = m) (h2 : l ≤ h) (h3 : h ≤ m) (h4 : m ≤ c)
  (hK : wpList P ops Q rest (a.put o.dst (.slice (c0H p l m) (h - l) (m - l))) w) : wpList P ops Q (o :: rest) a w := by
 refine wpList_plain hgd fun K hK' => ?_
 obtain ⟨i, hi1, hi2⟩ : ∃ i, P.info? e = some i ∧ i.size = 1 := by simpa using hsz
 subst eh em
 have hr : (Instr.sliceAt ty (.slice p n c) (lo.map a.eval) (some (a.eval hi)) (some (a.eval mx))).run P w = .ok (.slice (c0H p l m) (h - l) (m - l)) w := by
  cases lo with
  | none =>
   simp only [Option.elim] at hl
   subst hl
   simp [Instr.sliceAt, Instr.slice, run_underlying hu, Instr.sliceBounds, b0l, h3, h4, sizeOf, typeInfo, hi1, c0H, hh, hm]
  | some z =>
   obtain ⟨kz, hkz⟩ := hl
   simp [Instr.sliceAt, Instr.slice, run_underlying hu, Instr.sliceBounds, b0l, h2, h3, h4, sizeOf, typeInfo, hi1, hi2, c0H, hkz, hh, hm]
 unfold Oper.wp execOp
 simp only [ho, hx, Option.map_some, Sem.run_bind, Sem.run_pure, Result.andThen_ok, hr]
 exact hK' _ _ hK
end
theorem Rd.lt {w : World} {b o n : Nat} {vs : List Value} (h : Rd w (some ⟨b, o, none⟩) n vs) (hn : 0 < n) : b < w.heap.size := by
 obtain ⟨b', o', he, hc⟩ := h.at hn
 simp only [Option.some.injEq, Addr.mk.injEq] at he
 obtain ⟨rfl, rfl, -⟩ := he
 have := hc.cell (i := 0) (by rw [h.len]; exact hn)
 exact block_lt_of_cell this
theorem q0T (w : World) (g i : Nat) (v : Value) (b j : Nat) (h : b ≠ g) : (w.setCell ⟨g, i, none⟩ v).cell? ⟨b, j, none⟩ = w.cell? ⟨b, j, none⟩ :=
 World.cell?_of_block (a := ⟨b, j, none⟩) (heap_setCell_other w ⟨g, i, none⟩ b v h)
end Go.Mv
namespace Go.Proofs.YtemcankmggmgoaaGreat
section
open Go.RowKit Go.Mv Mvp
theorem g0b : (Tryz.prog.info? 248).map (·.size) = some 25 := by kernel_rfl
theorem v0U : (Tryz.prog.info? 3).map (fun i => (i.zero, i.size, i.bytes)) = some (some (.int .i64 0), 1, 8) := by kernel_rfl
theorem f0M (k : Nat) : a0u (k + 1) = f0Z (a0u k) k := by simp [a0u, List.range_succ]
theorem b0O (k : Nat) : (a0u k).length = 25 := by
 induction k with
 | zero => simp [a0u]
 | succ k ih => rw [f0M]; simp [f0Z, ih]
theorem s0r (w : World) :
  Calls Tryz.prog 207 #[] w fun e w' => e = .returned (.agg (is (a0u 24)).toArray) ∧ Fr Nob w w' := by
 go_enter Tryz.func207, Tryz.ntmps207
 go_wp2
 go_loopw [1, 2, 4] (fun x y i wr => ∃ k : Nat, k ≤ 24 ∧ i = .int .i64 k ∧ x = .int .i64 ((xy k).1 : Nat) ∧ y = .int .i64 ((xy k).2 : Nat) ∧ Has wr w.heap.size (is (a0u k)) 248 ∧ Fr Nob w wr) (fun _ _ i _ => (24 - intOf i).toNat)
 case atStart =>
  refine ⟨0, by omega, rfl, rfl, rfl, ?_, (Fr.refl _ _).alloc _⟩
  exact Has.new w _ _
 case round =>
  obtain ⟨k, hk, rfl, rfl, rfl, hh, hf⟩ := hrel
  have hxy := B0Q k
  by_cases hlt : k < 24
  ·obtain ⟨v0, hc, hfr⟩ := hh.ready (i := (xy k).1 + 5 * (xy k).2) (by rw [c0D, b0O]; omega)
   have hp : (0 : Int) ≤ ((k : Int) + 1) * ((k : Int) + 2) ∧ ((k : Int) + 1) * ((k : Int) + 2) ≤ 650 := by
    refine ⟨Int.mul_nonneg ap16 ap16, ?_⟩
    have := Int.mul_le_mul (show (k : Int) + 1 ≤ 24 by omega) (show (k : Int) + 2 ≤ 25 by omega) ap16 ap16
    omega
   go_wp2
   go_roundw
   case rel =>
    refine ⟨k + 1, by omega, by go_num, rfl, by simp [xy], ?_, hf.setCell _ _ _ _ (fun h => absurd h (Nat.lt_irrefl _))⟩
    have e : ((k : Int) + 1) * ((k : Int) + 2) / 2 % 64 = (((k + 1) * (k + 2) / 2 % 64 : Nat) : Int) := by simp
    rw [e, f0M, f0Z, ← y0u]
    exact hh.set _ _
   case measure => simp [intOf]; omega
  ·go_wp2_with (first | (with_reducible refine wSk 27 ?_))
   have hk24 : k = 24 := by omega
   subst hk24
   refine c0c rfl rfl Tryz.underlying248 rfl hh (is (a0u 24)) ap17 (by rw [c0D, b0O]; exact g0b) ?_
   go_wp2_with (first | (with_reducible refine f0L (o := ⟨none, .store 248 _ _, _, _, _, _⟩) ?_))
   refine c0G rfl rfl rfl rfl hh ap17 (by rw [c0D, b0O]; exact g0b) ?_ ?_
   ·intro v hv; simp [is] at hv; obtain ⟨x, _, rfl⟩ := hv; rfl
   intro w2 hh2 hf2 hz2
   go_wp2
   rw [c0A _ _ rfl] at hh2
   exact bodyPost_ret (a0v rfl rfl hh2 Tryz.underlying248 (by rw [c0D, b0O]; exact g0b)) rfl ⟨rfl, hf.new hf2 (Nat.le_refl _)⟩
theorem _root_.ap11 {p : Prop} (h : p := by unfold maxLen; omega) : p := h
theorem o0a (w : World) :
  Calls Tryz.prog 203 #[] w fun e w' => e = .returned (.slice (some ⟨w.heap.size, 0, none⟩) 25 25) ∧ Has w' w.heap.size (is (a0u 24)) 3 ∧ Fr Nob w w' := by
 go_enter Tryz.func203, Tryz.ntmps203
 go_wp2_with (at_make; refine c0y rfl rfl Tryz.underlying243 v0U rfl rfl rfl 25 25 ap17 ap17 ap16 ap16 ap11 ?_; intro w1 hw1 hf1 hz1)
 go_loopw [2, 3, 4] (fun x y i wr => ∃ k : Nat, k ≤ 24 ∧ i = .int .i64 k ∧ x = .int .i64 ((xy k).1 : Nat) ∧ y = .int .i64 ((xy k).2 : Nat) ∧ Has wr w.heap.size (is (a0u k)) 3 ∧ Fr Nob w wr) (fun _ _ i _ => (24 - intOf i).toNat)
 case atStart => exact ⟨0, by omega, rfl, rfl, rfl, hw1, hf1⟩
 case round =>
  obtain ⟨k, hk, rfl, rfl, rfl, hh, hf⟩ := hrel
  have hxy := B0Q k
  by_cases hlt : k < 24
  ·have hpl : b0r (xy k).1 (xy k).2 = (xy k).1 + 5 * (xy k).2 := by unfold b0r; rw [Nat.mod_eq_of_lt hxy.1, Nat.mod_eq_of_lt hxy.2]
   have HP := qH hpl; clear hpl
   have hpb : b0r (xy k).1 (xy k).2 < 25 := by rw [HP.out]; omega
   obtain ⟨v0, hc, hfr⟩ := hh.ready (i := b0r (xy k).1 (xy k).2) (by rw [c0D, b0O]; omega)
   have hp : (0 : Int) ≤ ((k : Int) + 1) * ((k : Int) + 2) ∧ ((k : Int) + 1) * ((k : Int) + 2) ≤ 650 := by
    refine ⟨Int.mul_nonneg ap16 ap16, ?_⟩
    have := Int.mul_le_mul (show (k : Int) + 1 ≤ 24 by omega) (show (k : Int) + 2 ≤ 25 by omega) ap16 ap16
    omega
   go_wp2_with (go_at_call 211; refine (i0m _ _ _ ap16 ap16 ap16 ap16).mono ?_; rintro e w' ⟨rfl, rfl⟩)
   go_roundw
   case rel =>
    refine ⟨k + 1, by omega, by go_num, rfl, by simp [xy], ?_, hf.setCell _ _ _ _ (fun h => absurd h (Nat.lt_irrefl _))⟩
    have e : ((k : Int) + 1) * ((k : Int) + 2) / 2 % 64 = (((k + 1) * (k + 2) / 2 % 64 : Nat) : Int) := by simp
    rw [e, f0M, f0Z, ← y0u, ← HP.out]
    exact hh.set _ _
   case measure => simp [intOf]; omega
  ·go_wp2
   have hk24 : k = 24 := by omega
   subst hk24
   go_ret
   exact ⟨rfl, hh, hf⟩
end
section
open Go.RowKit Go.Mv Mvp
theorem s0s (g : Nat) (S : List UInt64) (tail : List Value) (T : TypeId) (b : Option Addr) (n c : Nat) (l : List UInt8) (w : World) (hS : S.length = 25) (hn : n ≤ 200) (hg : Has w g (ws S ++ tail) T) (hb : RdB w b n l) (hbg : Off (One g) b) :
  Calls Tryz.prog 200 #[.pointer (some ⟨g, 0, none⟩), .slice b n c] w fun e w' => e = .returned (.tuple #[]) ∧ Has w' g (ws (g0a S l n) ++ tail) T ∧ Fr (One g) w w' ∧ w'.heap.size = w.heap.size := by
 go_enter Tryz.func200, Tryz.ntmps200
 go_wp2
 go_loopw [8] (fun i wr => ∃ k : Nat, k ≤ n ∧ i = .int .i64 k ∧ Has wr g (ws (g0a S l k) ++ tail) T ∧ Fr (One g) w wr ∧ wr.heap.size = w.heap.size) (fun i _ => (n - intOf i).toNat)
 case atStart => exact ⟨0, by omega, rfl, hg, Fr.refl _ _, rfl⟩
 case round =>
  obtain ⟨k, hk, rfl, hh, hf, hz⟩ := hrel
  by_cases hlt : k < n
  ·obtain ⟨bb, o, rfl, hcb0⟩ := (hb.keep hf hbg).at ap16
   have hcb := hcb0 k hlt
   clear hcb0
   have hlen := h0I S l k
   have hi8 : k / 8 < (ws (g0a S l k)).length := by rw [a0W, hlen]; omega
   have hc : wr.cell? ⟨g, k / 8, none⟩ = some (.int .u64 (((g0a S l k).getD (k / 8) 0).toNat : Int)) := hh.cell (by rw [List.getElem?_append_left hi8]; exact c0n _ _ (by rw [hlen]; omega))
   have hfr : wr.frozen? ⟨g, k / 8, none⟩ = false := hh.free _ (by rw [List.length_append]; omega)
   have hlo : (0 : Int) ≤ (k : Int) / 8 ∧ (k : Int) / 8 < 25 := by omega
   generalize hy : (g0a S l k).getD (k / 8) 0 = y at hc
   generalize hx : l.getD k 0 = x at hcb
   have HY := qH hy; clear hy
   have HX := qH hx; clear hx
   have HL := qH hlen; clear hlen hi8
   have HZ := qH hz; clear hz
   go_wp2
   go_region
   all_goals go_wp2
   go_roundw
   case rel =>
    refine ⟨k + 1, by omega, by go_num, ?_, (hf.setCell _ _ _ _ (fun _ => rfl)).drew, by have := HZ.out; simpa [World.setCell] using this⟩
    have h1 := (hh.set (k / 8) (.int .u64 ((wx y (shl (wid x) (8 * (k % 8)))).toNat : Int))).drew
    rw [List.set_append_left _ _ (by rw [a0W, HL.out]; omega), f0E, ← HY.out, ← HX.out] at h1
    rw [e0X, c0p, ← HY.out, ← HX.out]
    exact h1
   case measure => simp [intOf]; omega
  ·go_wp2
   go_end0
   have : k = n := by omega
   subst this
   exact ⟨rfl, hh, hf, hz⟩
end
section
open Go.RowKit Go.Mv Mvp
theorem y0x (S : List UInt64) (n i : Nat) (h : i < n) : (toB S n).getD i 0 = e0h S i := by
 simp [toB, List.getD_eq_getElem?_getD, List.getElem?_range h]
theorem s0t (g : Nat) (S : List UInt64) (tail : List Value) (T : TypeId) (n : Nat) (w : World) (hS : S.length = 25) (hn : n ≤ 200) (hg : Has w g (ws S ++ tail) T) :
  Calls Tryz.prog 202 #[.pointer (some ⟨g, 0, none⟩), .int .i64 (n : Int)] w fun e w' => e = .returned (.slice (some ⟨w.heap.size, 0, none⟩) n n) ∧ Has w' w.heap.size (bs (toB S n)) 5 ∧ Fr Nob w w' ∧ w'.heap.size = w.heap.size + 1 := by
 go_enter Tryz.func202, Tryz.ntmps202
 go_wp2_with (at_make; refine c0y rfl rfl Tryz.underlying22 b0K rfl rfl rfl n n rfl rfl ap16 ap16 ap11 ?_; intro w1 hw1 hf1 hz1)
 have hgl := hg.lt
 go_loopw [11] (fun i wr => ∃ k : Nat, k ≤ n ∧ i = .int .i64 k ∧ Has wr w.heap.size (bs (fill (toB S n) (List.replicate n 0) k)) 5 ∧ Has wr g (ws S ++ tail) T ∧ Fr Nob w wr ∧ wr.heap.size = w.heap.size + 1) (fun i _ => (n - intOf i).toNat)
 case atStart =>
  refine ⟨0, by omega, rfl, ?_, hg.keep hf1 id, hf1, hz1⟩
  rw [l0X]; simpa [bs] using hw1
 case round =>
  obtain ⟨k, hk, rfl, hh, hg2, hf, hz⟩ := hrel
  by_cases hlt : k < n
  ·obtain ⟨v0, hc0, hfr0⟩ := hh.ready (i := k) (by rw [a0I, e0z _ _ _ (by simp [b0s])]; simpa using hlt)
   have hi8 : k / 8 < (ws S).length := by rw [a0W, hS]; omega
   have hc : wr.cell? ⟨g, k / 8, none⟩ = some (.int .u64 ((S.getD (k / 8) 0).toNat : Int)) := hg2.cell (by rw [List.getElem?_append_left hi8]; exact c0n _ _ (by rw [hS]; omega))
   have hlo : (0 : Int) ≤ (k : Int) / 8 ∧ (k : Int) / 8 < 25 := by omega
   generalize hy : S.getD (k / 8) 0 = y at hc
   have HY := qH hy; clear hy
   have HS := qH hS; clear hS hi8
   have HZ := qH hz; clear hz hz1 hw1
   go_wp2
   go_roundw
   case rel =>
    have e : (toB S n).getD k 0 = lo8 (shr y (8 * (k % 8))) := by rw [y0x S n k hlt, e0h, HY.out]
    refine ⟨k + 1, by omega, by go_num, ?_, hg2.other _ _ _ ap16, hf.setCell _ _ _ _ (fun h => absurd h (Nat.lt_irrefl _)), by have := HZ.out; simpa [World.setCell] using this⟩
    rw [← e]
    exact hh.fillB (by simp [b0s]) (by simpa [b0s] using hlt)
   case measure => simp [intOf]; omega
  ·go_wp2
   go_ret
   obtain rfl : k = n := by omega
   rw [h0E _ _ _ (by simp [b0s]) (by simp [b0s])] at hh
   exact ⟨rfl, hh, hf, hz⟩
end
section
open Go.RowKit Go.Mv Mvp
theorem m0f (s : List UInt64) (k : Nat) : p0p s (k + 1) = k0J s (p0p s k) k := by simp [p0p, List.range_succ]
theorem k0O (s : List UInt64) (k : Nat) : (p0p s k).length = 5 := by
 induction k with
 | zero => simp [p0p]
 | succ k ih => rw [m0f]; simp [k0J, ih]
theorem m0g (s c : List UInt64) (t : List Nat) (k : Nat) : q0N s c t (k + 1) = k0K s c t (q0N s c t k) k := by simp [q0N, List.range_succ]
theorem p0r (s c : List UInt64) (t : List Nat) (k : Nat) : (q0N s c t k).length = 25 := by
 induction k with
 | zero => simp [q0N]
 | succ k ih => rw [m0g]; simp [k0K, ih]
theorem s0u : (Tryz.prog.info? 248).map (·.zero) = some (some (.agg (is (List.replicate 25 0)).toArray)) := by kernel_rfl
theorem q0U : (Tryz.prog.info? 232).map (·.zero) = some (some (.agg (ws (List.replicate 25 0)).toArray)) := by kernel_rfl
theorem z0C : (Tryz.prog.info? 250).map (·.zero) = some (some (.agg (ws (List.replicate 5 0)).toArray)) := by kernel_rfl
theorem s0v : (Tryz.prog.info? 58).map (·.size) = some 1 := by kernel_rfl
theorem q0V (t : List Nat) (rc : Nat → UInt64) (s : List UInt64) : b0x t rc s 0 = s := by simp [b0x]
theorem s0w (m s : List UInt64) : m0b m s 0 = s := by simp [m0b]
theorem s0x (m s : List UInt64) (k : Nat) : m0b m s (k + 1) = e0g m (m0b m s k) (5 * k) 5 := by simp [m0b, List.range_succ]
theorem o0b (m s : List UInt64) (y : Nat) : e0g m s y 0 = s := by simp [e0g]
theorem i0n (m s : List UInt64) (y k : Nat) : e0g m s y (k + 1) = i0j m y (e0g m s y k) k := by simp [e0g, List.range_succ]
theorem q0W (m s : List UInt64) (y k : Nat) : (e0g m s y k).length = s.length := by
 induction k with
 | zero => simp [e0g]
 | succ k ih => rw [i0n]; simp [i0j, ih]
theorem p0s (k : Nat) : (a0u 24).getD k 0 < 64 := by
 have h : ∀ k, k < 25 → (a0u 24).getD k 0 < 64 := by decide +kernel
 rcases Nat.lt_or_ge k 25 with hk | hk
 ·exact h k hk
 ·rw [List.getD_eq_getElem?_getD, List.getElem?_eq_none (by rw [b0O]; exact hk)]; simp
theorem s0y (k : Nat) (hk : k < 25) : e0f k < 25 := by
 have h : ∀ k, k < 25 → e0f k < 25 := by decide +kernel
 exact h k hk
theorem o0c (k : Nat) (w : World) (hk : k ≤ 25) : Calls Tryz.prog 209 #[.int .i64 (k : Int)] w fun e w' => e = .returned (.int .i64 ((e0f k : Nat) : Int)) ∧ w' = w :=
 (q0Q k w ap16).mono (fun _ _ h => ⟨h.1, h.2.symm⟩)
theorem v0V (x : UInt64) (n : Nat) (hn : n < 64) (w : World) : Calls Tryz.prog 208 #[.int .u64 (x.toNat : Int), .int .i64 (n : Int)] w fun e w' => e = .returned (.int .u64 ((n0T x n).toNat : Int)) ∧ w' = w :=
 (s0p x n hn w).mono (fun _ _ h => ⟨h.1, h.2.symm⟩)
theorem o0d (r : Nat) (hr : r < 24) (w : World) : Calls Tryz.prog 210 #[.int .i64 (r : Int)] w fun e w' => e = .returned (.int .u64 ((rcP r 8).toNat : Int)) ∧ w' = w :=
 (q0R r hr w).mono (fun _ _ h => ⟨h.1, h.2.symm⟩)
theorem v0W (x : UInt64) (w : World) : Calls Tryz.prog 208 #[.int .u64 (x.toNat : Int), .int .i64 1] w fun e w' => e = .returned (.int .u64 ((n0T x 1).toNat : Int)) ∧ w' = w :=
 (s0p x 1 ap16 w).mono (fun _ _ h => ⟨h.1, h.2.symm⟩)
theorem _root_.ap14 {p : Prop} (h : p := by kernel_rfl) : p := h
theorem o0e (g : Nat) (S : List UInt64) (tail : List Value) (T : TypeId) (w : World) (hS : S.length = 25) (hg : Has w g (ws S ++ tail) T) :
  Calls Tryz.prog 201 #[.pointer (some ⟨g, 0, none⟩)] w fun e w' => e = .returned (.tuple #[]) ∧ Has w' g (ws (b0x (a0u 24) (fun r => rcP r 8) S 24) ++ tail) T ∧ Fr (One g) w w' := by
 go_enter Tryz.func201, Tryz.ntmps201
 go_wp2_with (first
  | (go_at_call 207; refine (s0r _).mono ?_; rintro e w1 ⟨rfl, hf1⟩)
  | (with_reducible refine f0L (o := ⟨_, .alloc 248, _, _, _, _⟩) ?_))
 have hgl := hg.lt
 refine e0B rfl rfl s0u (is (List.replicate 25 0)) (by simp [Value.cells]) ?_
 intro w2 hb2 hf2 hz2
 have hg2 := (hg.keep hf1 id).keep hf2 id
 have hgs := hf1.size
 generalize hbt : w1.heap.size = bt at *
 go_wp2_with (with_reducible refine f0L (o := ⟨none, .store 248 _ _, _, _, _, _⟩) ?_)
 refine c0G rfl rfl rfl rfl hb2 (by simp [c0D, b0O]) (by rw [c0D, b0O]; exact g0b) ?_ ?_
 ·intro v hv; simp [is] at hv; obtain ⟨x, _, rfl⟩ := hv; rfl
 intro w3 hb3 hf3 hz3
 rw [c0A _ _ (by simp [c0D, b0O])] at hb3
 have hg3 := hg2.keep hf3 (fun (h : g = bt) => by omega)
 have hfr : Fr (One g) w w3 := ((Fr.refl (One g) w).same hf1).same hf2 |>.new hf3 ap16
 clear hb2 hg2 hf1 hf2 hf3 hg
 go_wp2_with fail
 go_loopw [15] (fun i wr => ∃ r : Nat, r ≤ 24 ∧ i = .int .i64 r ∧ Has wr g (ws (b0x (a0u 24) (fun r => rcP r 8) S r) ++ tail) T ∧ Has wr bt (is (a0u 24)) 248 ∧ Fr (One g) w wr) (fun i _ => (24 - intOf i).toNat)
 case atStart => exact ⟨0, by omega, rfl, by rw [q0V]; exact hg3, hb3, hfr⟩
 case round =>
  obtain ⟨r, hr, rfl, hgr, hbr, hf⟩ := hrel
  clear hg3 hb3 hfr
  by_cases hlt : r < 24
  ·have hltI : (r : Int) < 24 := by omega
   have hpl := i0l (a0u 24) (fun r => rcP r 8) S r
   rw [hS] at hpl
   generalize hrs : b0x (a0u 24) (fun r => rcP r 8) S r = s at *
   have HR := qH hrs; clear hrs
   go_wp2_with (with_reducible refine f0L (o := ⟨_, .alloc 250, _, _, _, _⟩) ?_)
   refine e0B rfl rfl z0C (ws (List.replicate 5 0)) (by simp [Value.cells]) ?_
   intro w4 hc4 hf4 hz4
   have hg4 := hgr.keep hf4 id
   have hb4 := hbr.keep hf4 id
   have hfr4 := hf.same hf4
   have hgc := hgr.lt
   have hbc := hbr.lt
   have hwc := hf.size
   generalize wr.heap.size = gc at *
   clear hgr hbr hf hf4 hz4
   go_wp2_with fail
   go_loopw [19] (fun i wr => ∃ k : Nat, k ≤ 25 ∧ i = .int .i64 k ∧ Has wr gc (ws (p0p s k)) 250 ∧ Has wr g (ws s ++ tail) T ∧ Has wr bt (is (a0u 24)) 248 ∧ Fr (One g) w wr) (fun i _ => (25 - intOf i).toNat)
   case atStart => exact ⟨0, by omega, rfl, hc4, hg4, hb4, hfr4⟩
   case round =>
    obtain ⟨k, hk, rfl, hck, hgk, hbk, hf⟩ := hrel
    clear hc4 hg4 hb4 hfr4
    by_cases hlt2 : k < 25
    ·have hs : wr.cell? ⟨g, k, none⟩ = some (.int .u64 ((s.getD k 0).toNat : Int)) := hgk.cell (by rw [List.getElem?_append_left (by rw [a0W, hpl]; exact hlt2)]; exact c0n _ _ (by rw [hpl]; exact hlt2))
     have hc : wr.cell? ⟨gc, k % 5, none⟩ = some (.int .u64 (((p0p s k).getD (k % 5) 0).toNat : Int)) := hck.cell (c0n _ _ (by rw [k0O]; omega))
     have hfc : wr.frozen? ⟨gc, k % 5, none⟩ = false := hck.free _ (by rw [a0W, k0O]; omega)
     have hlo : (0 : Int) ≤ (k : Int) ∧ (k : Int) < 25 ∧ (0 : Int) ≤ (k : Int) % 5 ∧ (k : Int) % 5 < 5 := by omega
     generalize hx : s.getD k 0 = x at hs
     generalize hy : (p0p s k).getD (k % 5) 0 = y at hc
     have HX := qH hx; clear hx
     have HY := qH hy; clear hy
     have HS := qH hpl; clear hpl
     have HS2 := qH hS; clear hS
     go_wp2
     go_region
     all_goals go_wp2
     go_roundw
     case rel =>
      have e : p0p s (k + 1) = (p0p s k).set (k % 5) (wx y x) := by rw [m0f, k0J, HX.out, HY.out]; rfl
      refine ⟨k + 1, by omega, by go_num, ?_, (hgk.other _ _ _ ap16).drew, (hbk.other _ _ _ ap16).drew, (hf.setCell _ _ _ _ (fun h => by omega)).drew⟩
      rw [e, ← f0E]
      exact (hck.set _ _).drew
     case measure => simp [intOf]; omega
    ·have hk25 : k = 25 := by omega
     subst hk25
     go_wp2_with (with_reducible refine f0L (o := ⟨_, .alloc 232, _, _, _, _⟩) ?_)
     refine e0B rfl rfl q0U (ws (List.replicate 25 0)) (by simp [Value.cells]) ?_
     intro w5 hm5 hf5 hz5
     have hc5 := hck.keep hf5 id
     have hg5 := hgk.keep hf5 id
     have hb5 := hbk.keep hf5 id
     have hfr5 := hf.same hf5
     have hcm := hck.lt
     have hgm := hgk.lt
     have hbm := hbk.lt
     have hwm := hf.size
     generalize wr.heap.size = gm at *
     generalize hcol : p0p s 25 = col at *
     clear hck hgk hbk hf hf5 hz5
     have hcl : col.length = 5 := by rw [← hcol, k0O]
     have HC := qH hcol; clear hcol
     have HCL := qH hcl; clear hcl
     go_wp2_with fail
     go_loopw [34] (fun i wr => ∃ k : Nat, k ≤ 25 ∧ i = .int .i64 k ∧ Has wr gm (ws (q0N s col (a0u 24) k)) 232 ∧ Has wr gc (ws col) 250 ∧ Has wr g (ws s ++ tail) T ∧ Has wr bt (is (a0u 24)) 248 ∧ Fr (One g) w wr) (fun i _ => (25 - intOf i).toNat)
     case atStart => exact ⟨0, by omega, rfl, hm5, hc5, hg5, hb5, hfr5⟩
     case round =>
      obtain ⟨k, hk, rfl, hmk, hck, hgk, hbk, hf⟩ := hrel
      clear hm5 hc5 hg5 hb5 hfr5
      by_cases hlt3 : k < 25
      ·have hs : wr.cell? ⟨g, k, none⟩ = some (.int .u64 ((s.getD k 0).toNat : Int)) := hgk.cell (by rw [List.getElem?_append_left (by rw [a0W, hpl]; exact hlt3)]; exact c0n _ _ (by rw [hpl]; exact hlt3))
       have hc4 : wr.cell? ⟨gc, (k + 4) % 5, none⟩ = some (.int .u64 ((col.getD ((k + 4) % 5) 0).toNat : Int)) := hck.cell (c0n _ _ (by rw [HCL.out]; omega))
       have hc1 : wr.cell? ⟨gc, (k + 1) % 5, none⟩ = some (.int .u64 ((col.getD ((k + 1) % 5) 0).toNat : Int)) := hck.cell (c0n _ _ (by rw [HCL.out]; omega))
       have hby : wr.cell? ⟨bt, k, none⟩ = some (.int .i64 (((a0u 24).getD k 0 : Nat) : Int)) := hbk.cell (y0t _ _ (by rw [b0O]; exact hlt3))
       have hbl : (a0u 24).getD k 0 < 64 := p0s k
       have hgt : e0f k < 25 := s0y k hlt3
       obtain ⟨v0, hcm0, hfm0⟩ := hmk.ready (i := e0f k) (by rw [a0W, p0r]; exact hgt)
       have hlo : (0 : Int) ≤ (k : Int) ∧ (k : Int) < 25 ∧ (0 : Int) ≤ ((k : Int) + 4) % 5 ∧ ((k : Int) + 4) % 5 < 5 ∧ (0 : Int) ≤ ((k : Int) + 1) % 5 ∧ ((k : Int) + 1) % 5 < 5 := by omega
       generalize hx : s.getD k 0 = x at hs
       generalize hy4 : col.getD ((k + 4) % 5) 0 = y4 at hc4
       generalize hy1 : col.getD ((k + 1) % 5) 0 = y1 at hc1
       generalize hn : (a0u 24).getD k 0 = n at hby hbl
       have HX := qH hx; clear hx
       have HY4 := qH hy4; clear hy4
       have HY1 := qH hy1; clear hy1
       have HN := qH hn; clear hn
       have HS := qH hpl; clear hpl
       have HS2 := qH hS; clear hS
       go_wp2
       go_region
       all_goals go_wp2
       have e1 : IntKind.i64.wrap ((k : Int) + 4) = (k : Int) + 4 := IntWalk.i64_in _ ap16
       have e2 : ((k : Int) + 4).tmod 5 = ((k : Int) + 4) % 5 := Int.tmod_eq_emod_of_nonneg ap16
       have e3 : (((k : Int) + 4) % 5).toNat = (k + 4) % 5 := by omega
       have e4 : IntKind.i64.wrap ((k : Int) + 1) = (k : Int) + 1 := IntWalk.i64_in _ ap16
       have e5 : ((k : Int) + 1).tmod 5 = ((k : Int) + 1) % 5 := Int.tmod_eq_emod_of_nonneg ap16
       have e6 : (((k : Int) + 1) % 5).toNat = (k + 1) % 5 := by omega
       go_quiet ((go_at_call 208; exact q0M (v0W _ _)))
       clear e1 e2 e3 e4 e5 e6
       go_wp2_with fail
       have HG := qH hgt; clear hgt
       have hgi : (0 : Int) ≤ (e0f k : Int) ∧ (e0f k : Int) < 25 := by have := HG.out; omega
       have hmz := hmk.drew.drewN nq
       have hcz := hck.drew.drewN nq
       have hgz := hgk.drew.drewN nq
       have hbz := hbk.drew.drewN nq
       have hfz := hf.drew.drewN nq
       have hbyz : (wr.drew.drewN nq).cell? ⟨bt, k, none⟩ = some (.int .i64 (n : Int)) := hby
       have hmcz : (wr.drew.drewN nq).cell? ⟨gm, e0f k, none⟩ = some v0 := hcm0
       have hmfz : (wr.drew.drewN nq).frozen? ⟨gm, e0f k, none⟩ = false := hfm0
       clear hmk hck hgk hbk hf hby hcm0 hfm0 hs hc4 hc1
       generalize wr.drew.drewN nq = wz at *
       clear wr
       refine wp_region_still_tail 8 ap14 ap14 ?_
       simp only [List.take_succ_cons, List.take_zero, List.drop_succ_cons, List.drop_zero]
       repeat still_step
       still_call (o0c k _ hk)
       repeat still_step
       still_call (v0V _ n hbl _)
       repeat still_step
       refine wpStill_nil ?_
       go_wp2
       go_roundw
       case rel =>
        have e : q0N s col (a0u 24) (k + 1) = (q0N s col (a0u 24) k).set (e0f k) (n0T (wx x (wx y4 (n0T y1 1))) n) := by
         rw [m0g, k0K, HX.out, HY4.out, HY1.out, HN.out]; rfl
        refine ⟨k + 1, by omega, by go_num, ?_, (hcz.other _ _ _ ap16).drew, (hgz.other _ _ _ ap16).drew, (hbz.other _ _ _ ap16).drew, (hfz.setCell _ _ _ _ (fun h => by omega)).drew⟩
        rw [e, ← f0E]
        exact (hmz.set _ _).drew
       case measure => simp [intOf]; omega
      ·obtain rfl : k = 25 := by omega
       have hml := p0r s col (a0u 24) 25
       have hmw : q0N s col (a0u 24) 25 = q0N s (p0p s 25) (a0u 24) 25 := by rw [HC.out]
       generalize hmv : q0N s col (a0u 24) 25 = mv at *
       have HM := qH hmw; clear hmw hmv
       have HML := qH hml; clear hml
       have HPL := qH hpl; clear hpl
       have HS2 := qH hS; clear hS
       clear hck
       go_wp2_with fail
       go_loopw [10] (fun i wr => ∃ j : Nat, j ≤ 5 ∧ i = .int .i64 ((5 * j : Nat) : Int) ∧ Has wr gm (ws mv) 232 ∧ Has wr g (ws (m0b mv s j) ++ tail) T ∧ Has wr bt (is (a0u 24)) 248 ∧ Fr (One g) w wr) (fun i _ => (25 - intOf i).toNat)
       case atStart => exact ⟨0, by omega, rfl, hmk, by rw [s0w]; exact hgk, hbk, hf⟩
       case round =>
        obtain ⟨j, hj, rfl, hmj, hgj, hbj, hfj⟩ := hrel
        clear hmk hgk hbk hf
        by_cases hlt4 : j < 5
        ·have hlo : (0 : Int) ≤ 5 * (j : Int) ∧ 5 * (j : Int) < 25 ∧ 5 * (j : Int) ≤ 20 := by omega
         obtain ⟨wo, rfl⟩ : ∃ wo : World, wo = wr := ⟨_, rfl⟩
         go_wp2_with (with_reducible refine wSk 72 ?_)
         refine z0A rfl rfl Tryz.underlying232 s0v rfl rfl rfl rfl (5 * j) (5 * j + 5) (5 * j + 5) ap17 ap17 ap17 ap16 ap16 ap16 ap16 ?_
         have e5 : 5 * j + 5 - 5 * j = 5 := by omega
         rw [e5]
         clear e5
         go_wp2_with fail
         go_loopw [75] (fun i wr => ∃ x : Nat, x ≤ 5 ∧ i = .int .i64 x ∧ Has wr gm (ws mv) 232 ∧ Has wr g (ws (e0g mv (m0b mv s j) (5 * j) x) ++ tail) T ∧ Has wr bt (is (a0u 24)) 248 ∧ Fr (One g) w wr) (fun i _ => (5 - intOf i).toNat)
         case atStart => exact ⟨0, by omega, rfl, hmj, by rw [o0b]; exact hgj, hbj, hfj⟩
         case round =>
          obtain ⟨x, hx, rfl, hmx, hgx, hbx, hfx⟩ := hrel
          clear hmj hgj hbj hfj
          by_cases hlt5 : x < 5
          ·have hml : mv.length = 25 := HML.out
           have hsl : (e0g mv (m0b mv s j) (5 * j) x).length = 25 := by rw [q0W, k0L]; exact HPL.out
           have hx0 : wr.cell? ⟨gm, 5 * j + x, none⟩ = some (.int .u64 ((mv.getD (5 * j + x) 0).toNat : Int)) := hmx.cell (c0n _ _ ap16)
           have hx1 : wr.cell? ⟨gm, 5 * j + (x + 1) % 5, none⟩ = some (.int .u64 ((mv.getD (5 * j + (x + 1) % 5) 0).toNat : Int)) := hmx.cell (c0n _ _ ap16)
           have hx2 : wr.cell? ⟨gm, 5 * j + (x + 2) % 5, none⟩ = some (.int .u64 ((mv.getD (5 * j + (x + 2) % 5) 0).toNat : Int)) := hmx.cell (c0n _ _ ap16)
           obtain ⟨v0, hc0, hf0⟩ := hgx.ready (i := 5 * j + x) (by rw [List.length_append, a0W, hsl]; omega)
           have hlo5 : (0 : Int) ≤ (x : Int) ∧ (x : Int) < 5 ∧ (0 : Int) ≤ ((x : Int) + 1) % 5 ∧ ((x : Int) + 1) % 5 < 5 ∧ (0 : Int) ≤ ((x : Int) + 2) % 5 ∧ ((x : Int) + 2) % 5 < 5 := by omega
           have hlo6 : (0 : Int) ≤ 5 * (j : Int) + (x : Int) ∧ 5 * (j : Int) + (x : Int) < 25 := by omega
           generalize hy0 : mv.getD (5 * j + x) 0 = y0 at hx0
           generalize hy1 : mv.getD (5 * j + (x + 1) % 5) 0 = y1 at hx1
           generalize hy2 : mv.getD (5 * j + (x + 2) % 5) 0 = y2 at hx2
           have HY0 := qH hy0; clear hy0
           have HY1 := qH hy1; clear hy1
           have HY2 := qH hy2; clear hy2
           have HSL := qH hsl; clear hsl hml
           go_wp2_with fail
           have e1 : IntKind.i64.wrap ((x : Int) + 1) = (x : Int) + 1 := IntWalk.i64_in _ ap16
           have e2 : ((x : Int) + 1).tmod 5 = ((x : Int) + 1) % 5 := Int.tmod_eq_emod_of_nonneg ap16
           have e3 : (((x : Int) + 1) % 5).toNat = (x + 1) % 5 := by omega
           have e4 : IntKind.i64.wrap ((x : Int) + 2) = (x : Int) + 2 := IntWalk.i64_in _ ap16
           have e5 : ((x : Int) + 2).tmod 5 = ((x : Int) + 2) % 5 := Int.tmod_eq_emod_of_nonneg ap16
           have e6 : (((x : Int) + 2) % 5).toNat = (x + 2) % 5 := by omega
           have e7 : IntKind.i64.wrap (5 * (j : Int) + (x : Int)) = 5 * (j : Int) + (x : Int) := IntWalk.i64_in _ ap16
           have e8 : (5 * (j : Int) + (x : Int)).toNat = 5 * j + x := by omega
           refine wp_region_still_tail 22 ap14 ap14 ?_
           simp only [List.take_succ_cons, List.take_zero, List.drop_succ_cons, List.drop_zero]
           repeat still_step
           refine wpStill_nil ?_
           go_wp2
           go_roundw
           case rel =>
            have e : e0g mv (m0b mv s j) (5 * j) (x + 1) = (e0g mv (m0b mv s j) (5 * j) x).set (5 * j + x) (wx y0 (wa (wn y1) y2)) := by
             rw [i0n, i0j, HY0.out, HY1.out, HY2.out]; rfl
            refine ⟨x + 1, by omega, by go_num, (hmx.other _ _ _ ap16).drew, ?_, (hbx.other _ _ _ ap16).drew, (hfx.setCell _ _ _ _ (fun _ => rfl)).drew⟩
            rw [e, ← f0E, ← List.set_append_left _ _ (by rw [a0W, HSL.out]; omega)]
            exact (hgx.set _ _).drew
           case measure => simp [intOf]; omega
          ·have hge : ¬ ((x : Int) < 5) := by omega
           have hx5 : x = 5 := by omega
           have HX5 := qH hx5; clear hx5
           go_wp2_with fail
           go_roundw
           case rel => exact ⟨j + 1, by omega, by omega, by rw [s0x]; rw [HX5.out] at hgx; exact hgx⟩
           case measure => simp [intOf]; omega
        ·have hge : ¬ (5 * (j : Int) < 25) := by omega
         have hj5 : j = 5 := by omega
         have HJ5 := qH hj5; clear hj5
         have hsl : (m0b mv s j).length = 25 := by rw [k0L]; exact HPL.out
         have hc0 : wr.cell? ⟨g, 0, none⟩ = some (.int .u64 (((m0b mv s j).getD 0 0).toNat : Int)) := hgj.cell (by rw [List.getElem?_append_left (by rw [a0W, hsl]; omega)]; exact c0n _ _ (by rw [hsl]; omega))
         have hf0 : wr.frozen? ⟨g, 0, none⟩ = false := hgj.free _ (by rw [List.length_append, a0W, hsl]; omega)
         generalize hy : (m0b mv s j).getD 0 0 = y at hc0
         have HY := qH hy; clear hy
         have HSL := qH hsl; clear hsl
         go_wp2_with fail
         refine wp_region_still_tail 9 ap14 ap14 ?_
         simp only [List.take_succ_cons, List.take_zero, List.drop_succ_cons, List.drop_zero]
         repeat still_step
         still_call (o0d r hlt _)
         repeat still_step
         refine wpStill_nil ?_
         go_wp2
         go_roundw
         case rel =>
          have e : b0x (a0u 24) (fun r => rcP r 8) S (r + 1) = (m0b mv s j).set 0 (wx y (rcP r 8)) := by
           rw [g0W, HR.out, i0k, ← HM.out, ← HJ5.out, HY.out]; rfl
          refine ⟨r + 1, by omega, by go_num, ?_, (hbj.other _ _ _ ap16).drew, (hfj.setCell _ _ _ _ (fun _ => rfl)).drew⟩
          rw [e, ← f0E, ← List.set_append_left _ _ (by rw [a0W, HSL.out]; omega)]
          exact (hgj.set _ _).drew
         case measure => simp [intOf]; omega
  ·obtain rfl : r = 24 := by omega
   go_wp2_with fail
   go_end0
   exact ⟨rfl, hgr, hf⟩
end
section
open Go.RowKit Go.Mv Mvp
theorem m0h (s : List UInt64) (k : Nat) : j0y s (k + 1) = c0z s (j0y s k) k 5 := by simp [j0y, List.range_succ]
theorem m0i (s c : List UInt64) (x : Nat) : c0z s c x 0 = c := by simp [c0z]
theorem h0o (s c : List UInt64) (x k : Nat) : c0z s c x (k + 1) = h0F s x (c0z s c x k) k := by simp [c0z, List.range_succ]
theorem i0o (s c : List UInt64) (x k : Nat) : (c0z s c x k).length = c.length := by
 induction k with
 | zero => simp [c0z]
 | succ k ih => rw [h0o]; simp [h0F, ih]
theorem p0t (s : List UInt64) (k : Nat) : (j0y s k).length = 5 := by
 induction k with
 | zero => simp [j0y]
 | succ k ih => rw [m0h, i0o, ih]
theorem s0z (s : List UInt64) : j0y s 0 = List.replicate 5 0 := by simp [j0y]
theorem m0j (s : List UInt64) (t : List Nat) (c : List UInt64) (k : Nat) : m0c s t c (k + 1) = d0i s t (m0c s t c k) k (dR c k) 5 := by simp [m0c, List.range_succ]
theorem m0k (s : List UInt64) (t : List Nat) (m : List UInt64) (x : Nat) (d : UInt64) : d0i s t m x d 0 = m := by simp [d0i]
theorem h0p (s : List UInt64) (t : List Nat) (m : List UInt64) (x : Nat) (d : UInt64) (k : Nat) : d0i s t m x d (k + 1) = h0G s t x d (d0i s t m x d k) k := by simp [d0i, List.range_succ]
theorem i0p (s : List UInt64) (t : List Nat) (m : List UInt64) (x : Nat) (d : UInt64) (k : Nat) : (d0i s t m x d k).length = m.length := by
 induction k with
 | zero => simp [d0i]
 | succ k ih => rw [h0p]; simp [h0G, ih]
theorem p0u (s : List UInt64) (t : List Nat) (c : List UInt64) (k : Nat) : (m0c s t c k).length = 25 := by
 induction k with
 | zero => simp [m0c]
 | succ k ih => rw [m0j, i0p, ih]
theorem m0l (m : List UInt64) (k : Nat) : m0d m (k + 1) = d0j m (m0d m k) k 5 := by simp [m0d, List.range_succ]
theorem m0m (m o : List UInt64) (x : Nat) : d0j m o x 0 = o := by simp [d0j]
theorem h0q (m o : List UInt64) (x k : Nat) : d0j m o x (k + 1) = h0H m x (d0j m o x k) k := by simp [d0j, List.range_succ]
theorem i0q (m o : List UInt64) (x k : Nat) : (d0j m o x k).length = o.length := by
 induction k with
 | zero => simp [d0j]
 | succ k ih => rw [h0q]; simp [h0H, ih]
theorem k0P (m : List UInt64) (k : Nat) : (m0d m k).length = 25 := by
 induction k with
 | zero => simp [m0d]
 | succ k ih => rw [m0l, i0q, ih]
theorem d0r (x y : Nat) : b0r x y < 25 := by unfold b0r; omega
theorem h0J : (Tryz.prog.info? 58).map (fun i => (i.zero, i.size, i.bytes)) = some (some (.int .u64 0), 1, 8) := by kernel_rfl
theorem d0x (x y : Nat) (w : World) (hx : x ≤ 200) (hy : y ≤ 200) : Calls Tryz.prog 211 #[.int .i64 (x : Int), .int .i64 (y : Int)] w fun e w' => e = .returned (.int .i64 ((b0r x y : Nat) : Int)) ∧ w' = w :=
 (i0m x y w ap16 ap16 ap16 ap16).mono (fun _ _ h => ⟨h.1, h.2.symm⟩)
theorem q0X (x y : Nat) (w : World) (hx : x ≤ 100) (hy : y ≤ 100) : Calls Tryz.prog 211 #[.int .i64 (y : Int), .int .i64 (2 * (x : Int) + 3 * (y : Int))] w fun e w' => e = .returned (.int .i64 ((b0r y (2 * x + 3 * y) : Nat) : Int)) ∧ w' = w := by
 refine (i0m (y : Int) (2 * (x : Int) + 3 * (y : Int)) w ap16 ap16 ap16 ap16).mono (fun e w' h => ⟨h.1.trans ?_, h.2.symm⟩)
 have e1 : (2 * (x : Int) + 3 * (y : Int)).toNat = 2 * x + 3 * y := by omega
 rw [e1, Int.toNat_natCast]
theorem z0D (x y : Nat) (w : World) (hx : x ≤ 100) (hy : y ≤ 100) : Calls Tryz.prog 211 #[.int .i64 ((x : Int) + 1), .int .i64 (y : Int)] w fun e w' => e = .returned (.int .i64 ((b0r (x + 1) y : Nat) : Int)) ∧ w' = w := d0x (x + 1) y w ap16 ap16
theorem z0E (x y : Nat) (w : World) (hx : x ≤ 100) (hy : y ≤ 100) : Calls Tryz.prog 211 #[.int .i64 ((x : Int) + 2), .int .i64 (y : Int)] w fun e w' => e = .returned (.int .i64 ((b0r (x + 2) y : Nat) : Int)) ∧ w' = w := d0x (x + 2) y w ap16 ap16
theorem s0A (x : UInt64) (w : World) : Calls Tryz.prog 212 #[.int .u64 (x.toNat : Int), .int .i64 1] w fun e w' => e = .returned (.int .u64 ((n0T x 1).toNat : Int)) ∧ ∃ n, w' = w.drewN n := p0q x 1 ap16 w
theorem s0B (aa ta : Option Addr) (na ca ct : Nat) (S : List UInt64) (c : UInt64) (w : World) (hna : na = 25) (ha : Rd w aa na (ws S)) (ht : Rd w ta 25 (is (a0u 24))) :
  Calls Tryz.prog 204 #[.slice aa na ca, .slice ta 25 ct, .int .u64 (c.toNat : Int)] w fun e w' => ∃ g, e = .returned (.slice (some ⟨g, 0, none⟩) 25 25) ∧ w.heap.size ≤ g ∧ Has w' g (ws (f0X (a0u 24) S c)) 58 ∧ Fr Nob w w' := by
 subst hna
 have hS : S.length = 25 := by have := ha.len; rwa [a0W] at this
 go_enter Tryz.func204, Tryz.ntmps204
 go_wp2_with (at_make; refine c0y rfl rfl Tryz.underlying226 h0J rfl rfl rfl 5 5 ap17 ap17 ap16 ap16 ap11 ?_; intro w1 hw1 hf1 hz1)
 have hc1 : Has w1 w.heap.size (ws (j0y S 0)) 58 := by rw [s0z]; exact hw1
 generalize hgc : w.heap.size = gc at *
 clear hw1
 go_loopw [8] (fun i wr => ∃ x : Nat, x ≤ 5 ∧ i = .int .i64 x ∧ Has wr gc (ws (j0y S x)) 58 ∧ Fr Nob w wr) (fun i _ => (5 - intOf i).toNat)
 case atStart => exact ⟨0, by omega, rfl, hc1, hf1⟩
 case round =>
  obtain ⟨x, hx, rfl, hcx, hfx⟩ := hrel
  clear hc1 hf1
  by_cases hlt : x < 5
  ·have hltI : (x : Int) < 5 := by omega
   obtain ⟨wo, rfl⟩ : ∃ wo : World, wo = wr := ⟨_, rfl⟩
   go_wp2_with fail
   go_loopw [9] (fun i wr => ∃ y : Nat, y ≤ 5 ∧ i = .int .i64 y ∧ Has wr gc (ws (c0z S (j0y S x) x y)) 58 ∧ Fr Nob w wr) (fun i _ => (5 - intOf i).toNat)
   case atStart => exact ⟨0, by omega, rfl, by rw [m0i]; exact hcx, hfx⟩
   case round =>
    obtain ⟨y, hy, rfl, hcy, hfy⟩ := hrel
    clear hcx hfx
    by_cases hlt2 : y < 5
    ·have hlt2I : (y : Int) < 5 := by omega
     obtain ⟨b, o, rfl, hat⟩ := (ha.still hfy).at ap16
     have hs : wr.cell? ⟨b, o + b0r x y, none⟩ = some (.int .u64 ((S.getD (b0r x y) 0).toNat : Int)) := hat _ _ (c0n _ _ (by rw [hS]; exact d0r x y))
     have hsl : (c0z S (j0y S x) x y).length = 5 := by rw [i0o, p0t]
     have hc : wr.cell? ⟨gc, x, none⟩ = some (.int .u64 (((c0z S (j0y S x) x y).getD x 0).toNat : Int)) := hcy.cell (c0n _ _ (by rw [hsl]; exact hlt))
     have hf : wr.frozen? ⟨gc, x, none⟩ = false := hcy.free _ (by rw [a0W, hsl]; exact hlt)
     have hpl : (0 : Int) ≤ (b0r x y : Int) ∧ (b0r x y : Int) < 25 := by have := d0r x y; omega
     generalize hu : S.getD (b0r x y) 0 = u at hs
     generalize hv : (c0z S (j0y S x) x y).getD x 0 = v at hc
     have HU := qH hu; clear hu
     have HV := qH hv; clear hv
     have HSL := qH hsl; clear hsl
     have HS := qH hS; clear hS
     clear hat
     have HGC := qH hgc; clear hgc
     go_wp2_with fail
     refine wp_region_still_tail 14 ap14 ap14 ?_
     simp only [List.take_succ_cons, List.take_zero, List.drop_succ_cons, List.drop_zero]
     repeat still_step
     still_call (d0x x y _ ap16 ap16)
     repeat still_step
     refine wpStill_nil ?_
     go_wp2
     go_roundw
     case rel =>
      have e : c0z S (j0y S x) x (y + 1) = (c0z S (j0y S x) x y).set x (wx v u) := by rw [h0o, h0F, HU.out, HV.out]; rfl
      refine ⟨y + 1, by omega, by go_num, ?_, (hfy.setCell _ _ _ _ (fun h => by have := HGC.out; omega)).drew⟩
      rw [e, ← f0E]
      exact (hcy.set _ _).drew
     case measure => simp [intOf]; omega
    ·have hge : ¬ ((y : Int) < 5) := by omega
     have hy5 : y = 5 := by omega
     have HY := qH hy5; clear hy5
     go_wp2_with fail
     go_roundw
     case rel =>
      rw [HY.out, ← m0h] at hcy
      first
       | exact ⟨x + 1, by omega, by go_num, hcy, hfy⟩
       | exact ⟨x + 1, by omega, by omega, hcy⟩
     case measure => simp [intOf]; omega
  ·have hge : ¬ ((x : Int) < 5) := by omega
   have hx5 : x = 5 := by omega
   have hcl : (j0y S x).length = 5 := p0t S x
   have hcol : j0y S x = j0y S 5 := by rw [hx5]
   generalize j0y S x = col at *
   have HCOL := qH hcol; clear hcol hx5
   go_wp2_with (at_make; refine c0y rfl rfl Tryz.underlying226 h0J rfl rfl rfl 25 25 ap17 ap17 ap16 ap16 ap11 ?_; intro w2 hw2 hf2 hz2)
   have hm2 : Has w2 wr.heap.size (ws (m0c S (a0u 24) col 0)) 58 := by simpa [m0c, ws] using hw2
   have hgm : gc < wr.heap.size := hcx.lt
   have hc2 := hcx.keep hf2 id
   have hfr2 := hfx.same hf2
   have hwm : gc ≤ wr.heap.size := by have := hfx.size; omega
   generalize wr.heap.size = gm at *
   clear hw2 hf2 hz2 hcx hfx
   go_wp2_with fail
   go_loopw [11] (fun i wr => ∃ x : Nat, x ≤ 5 ∧ i = .int .i64 x ∧ Has wr gc (ws col) 58 ∧ Has wr gm (ws (m0c S (a0u 24) col x)) 58 ∧ Fr Nob w wr) (fun i _ => (5 - intOf i).toNat)
   case atStart => exact ⟨0, by omega, rfl, hc2, hm2, hfr2⟩
   case round =>
    obtain ⟨x, hx, rfl, hcx, hmx, hfx⟩ := hrel
    clear hc2 hm2 hfr2
    by_cases hlt3 : x < 5
    ·have hlt3I : (x : Int) < 5 := by omega
     obtain ⟨wo, rfl⟩ : ∃ wo : World, wo = wr := ⟨_, rfl⟩
     have hc4 : wo.cell? ⟨gc, (x + 4) % 5, none⟩ = some (.int .u64 ((col.getD ((x + 4) % 5) 0).toNat : Int)) := hcx.cell (c0n _ _ ap16)
     have hc1 : wo.cell? ⟨gc, (x + 1) % 5, none⟩ = some (.int .u64 ((col.getD ((x + 1) % 5) 0).toNat : Int)) := hcx.cell (c0n _ _ ap16)
     generalize hu : col.getD ((x + 4) % 5) 0 = u at hc4
     generalize hv : col.getD ((x + 1) % 5) 0 = v at hc1
     have HU := qH hu; clear hu
     have HV := qH hv; clear hv
     have HCL := qH hcl; clear hcl
     have HS := qH hS; clear hS
     have HGC := qH hgc; clear hgc
     have hlo : (0 : Int) ≤ ((x : Int) + 4) % 5 ∧ ((x : Int) + 4) % 5 < 5 ∧ (0 : Int) ≤ ((x : Int) + 1) % 5 ∧ ((x : Int) + 1) % 5 < 5 := by omega
     go_wp2_with fail
     have e1 : IntKind.i64.wrap ((x : Int) + 4) = (x : Int) + 4 := IntWalk.i64_in _ ap16
     have e2 : ((x : Int) + 4).tmod 5 = ((x : Int) + 4) % 5 := Int.tmod_eq_emod_of_nonneg ap16
     have e3 : (((x : Int) + 4) % 5).toNat = (x + 4) % 5 := by omega
     have e4 : IntKind.i64.wrap ((x : Int) + 1) = (x : Int) + 1 := IntWalk.i64_in _ ap16
     have e5 : ((x : Int) + 1).tmod 5 = ((x : Int) + 1) % 5 := Int.tmod_eq_emod_of_nonneg ap16
     have e6 : (((x : Int) + 1) % 5).toNat = (x + 1) % 5 := by omega
     go_quiet ((go_at_call 212; exact Calls.quiet_of (s0A _ _)))
     clear e1 e2 e3 e4 e5 e6
     go_wp2_with fail
     have hcz := hcx.drewN nq
     have hmz := hmx.drewN nq
     have hfz := hfx.drewN nq
     generalize wo.drewN nq = wz at *
     clear hcx hmx hfx hc4 hc1 wo
     have hmb := hmz.lt
     have hd : wx u (n0T v 1) = dR col x := by rw [dR, HU.out, HV.out]; rfl
     generalize wx u (n0T v 1) = d at *
     have HD := qH hd; clear hd
     go_loopw [13] (fun i wr => ∃ y : Nat, y ≤ 5 ∧ i = .int .i64 y ∧ Has wr gc (ws col) 58 ∧ Has wr gm (ws (d0i S (a0u 24) (m0c S (a0u 24) col x) x d y)) 58 ∧ Fr Nob w wr) (fun i _ => (5 - intOf i).toNat)
     case atStart => exact ⟨0, by omega, rfl, hcz, by rw [m0k]; exact hmz, hfz⟩
     case round =>
      obtain ⟨y, hy, rfl, hcy, hmy, hfy⟩ := hrel
      clear hcz hmz hfz
      by_cases hlt4 : y < 5
      ·have hlt4I : (y : Int) < 5 := by omega
       obtain ⟨b, o, rfl, hat⟩ := (ha.still hfy).at ap16
       obtain ⟨tb, to, rfl, tat⟩ := (ht.still hfy).at ap16
       have hnb : b ≠ gm := by have := ha.lt ap16; have := HGC.out; omega
       have hnt : tb ≠ gm := by have := ht.lt ap16; have := HGC.out; omega
       have hs : wr.cell? ⟨b, o + b0r x y, none⟩ = some (.int .u64 ((S.getD (b0r x y) 0).toNat : Int)) := hat _ _ (c0n _ _ (by rw [HS.out]; exact d0r x y))
       have htu : wr.cell? ⟨tb, to + b0r x y, none⟩ = some (.int .i64 (((a0u 24).getD (b0r x y) 0 : Nat) : Int)) := tat _ _ (y0t _ _ (by rw [b0O]; exact d0r x y))
       have htl : (a0u 24).getD (b0r x y) 0 < 64 := p0s _
       have hpl := d0r x y
       have hpl2 := d0r y (2 * x + 3 * y)
       obtain ⟨v0, hc0, hf0⟩ := hmy.ready (i := b0r y (2 * x + 3 * y)) (by rw [a0W, i0p, p0u]; exact hpl2)
       have hpi : (0 : Int) ≤ (b0r x y : Int) ∧ (b0r x y : Int) < 25 ∧ (0 : Int) ≤ (b0r y (2 * x + 3 * y) : Int) ∧ (b0r y (2 * x + 3 * y) : Int) < 25 := by omega
       generalize hsv : S.getD (b0r x y) 0 = sv at hs
       generalize htv : (a0u 24).getD (b0r x y) 0 = tv at htu htl
       have HSV := qH hsv; clear hsv
       have HTV := qH htv; clear htv
       clear hat tat hpl hpl2
       go_wp2_with fail
       have e1 : IntKind.i64.wrap (2 * (x : Int)) = 2 * (x : Int) := IntWalk.i64_in _ ap16
       have e2 : IntKind.i64.wrap (3 * (y : Int)) = 3 * (y : Int) := IntWalk.i64_in _ ap16
       have e3 : IntKind.i64.wrap (2 * (x : Int) + 3 * (y : Int)) = 2 * (x : Int) + 3 * (y : Int) := IntWalk.i64_in _ ap16
       go_region_held3 (fun w' => w'.cell? ⟨b, o + b0r x y, none⟩ = some (.int .u64 (sv.toNat : Int)) ∧ w'.cell? ⟨tb, to + b0r x y, none⟩ = some (.int .i64 (tv : Int))) (first | go_keep | (refine ⟨?_, ?_⟩ <;> (rw [q0T _ _ _ _ _ _ (by assumption)]; assumption)))
        (first | (go_at_call_of 211 (Value.int .i64 (x : Int)); refine (d0x x y _ ap16 ap16).mono ?_; rintro e w' ⟨rfl, rfl⟩) | (go_at_call 212; refine (p0q _ _ htl _).mono ?_; rintro e w' ⟨rfl, nl, rfl⟩) | (go_at_call 211; refine (q0X x y _ ap16 ap16).mono ?_; rintro e w' ⟨rfl, rfl⟩))
       all_goals go_wp2
       go_roundw
       case rel =>
        have e : d0i S (a0u 24) (m0c S (a0u 24) col x) x d (y + 1) = (d0i S (a0u 24) (m0c S (a0u 24) col x) x d y).set (b0r y (2 * x + 3 * y)) (n0T (wx sv d) tv) := by
         rw [h0p, h0G, HSV.out, HTV.out]; rfl
        refine ⟨y + 1, by omega, by go_num, (hcy.drewN _).other _ _ _ ap16, ?_, (hfy.drewN _).setCell _ _ _ _ (fun h => by have := HGC.out; omega)⟩
        rw [e, ← f0E]
        exact (hmy.drewN _).set _ _
       case measure => simp [intOf]; omega
      ·have hge : ¬ ((y : Int) < 5) := by omega
       have hy5 : y = 5 := by omega
       have HY := qH hy5; clear hy5
       go_wp2_with fail
       go_roundw
       case rel =>
        rw [HY.out, HD.out, ← m0j] at hmy
        first
         | exact ⟨x + 1, by omega, by go_num, hcy, hmy, hfy⟩
         | exact ⟨x + 1, by omega, by omega, hmy⟩
       case measure => simp [intOf]; omega
    ·have hge : ¬ ((x : Int) < 5) := by omega
     have hx5 : x = 5 := by omega
     have hml : (m0c S (a0u 24) col x).length = 25 := p0u _ _ _ _
     have hmv : m0c S (a0u 24) col x = m0c S (a0u 24) (j0y S 5) 5 := by rw [hx5, HCOL.out]
     generalize m0c S (a0u 24) col x = mv at *
     have HMV := qH hmv; clear hmv hx5
     have HGC := qH hgc; clear hgc
     have HS := qH hS; clear hS
     have HCL := qH hcl; clear hcl
     have hgb : gc ≤ wr.heap.size := by have := hfx.size; have := HGC.out; omega
     go_wp2_with (at_make; refine c0y rfl rfl Tryz.underlying226 h0J rfl rfl rfl 25 25 ap17 ap17 ap16 ap16 ap11 ?_; intro w3 hw3 hf3 hz3)
     have ho3 : Has w3 wr.heap.size (ws (m0d mv 0)) 58 := by simpa [m0d, ws] using hw3
     have hgo : gm < wr.heap.size := hmx.lt
     have hm3 := hmx.keep hf3 id
     have hfr3 := hfx.same hf3
     generalize wr.heap.size = go at *
     clear hw3 hf3 hz3 hcx hmx hfx
     go_wp2_with fail
     go_loopw [15] (fun i wr => ∃ x : Nat, x ≤ 5 ∧ i = .int .i64 x ∧ Has wr gm (ws mv) 58 ∧ Has wr go (ws (m0d mv x)) 58 ∧ Fr Nob w wr) (fun i _ => (5 - intOf i).toNat)
     case atStart => exact ⟨0, by omega, rfl, hm3, ho3, hfr3⟩
     case round =>
      obtain ⟨x, hx, rfl, hmx, hox, hfx⟩ := hrel
      clear hm3 ho3 hfr3
      by_cases hlt5 : x < 5
      ·have hlt5I : (x : Int) < 5 := by omega
       obtain ⟨wo, rfl⟩ : ∃ wo : World, wo = wr := ⟨_, rfl⟩
       go_wp2_with fail
       go_loopw [16] (fun i wr => ∃ y : Nat, y ≤ 5 ∧ i = .int .i64 y ∧ Has wr gm (ws mv) 58 ∧ Has wr go (ws (d0j mv (m0d mv x) x y)) 58 ∧ Fr Nob w wr) (fun i _ => (5 - intOf i).toNat)
       case atStart => exact ⟨0, by omega, rfl, hmx, by rw [m0m]; exact hox, hfx⟩
       case round =>
        obtain ⟨y, hy, rfl, hmy, hoy, hfy⟩ := hrel
        clear hmx hox hfx
        by_cases hlt6 : y < 5
        ·have hlt6I : (y : Int) < 5 := by omega
         have hp0 := d0r x y
         have hp1 := d0r (x + 1) y
         have hp2 := d0r (x + 2) y
         have h0 : wr.cell? ⟨gm, b0r x y, none⟩ = some (.int .u64 ((mv.getD (b0r x y) 0).toNat : Int)) := hmy.cell (c0n _ _ ap16)
         have h1 : wr.cell? ⟨gm, b0r (x + 1) y, none⟩ = some (.int .u64 ((mv.getD (b0r (x + 1) y) 0).toNat : Int)) := hmy.cell (c0n _ _ ap16)
         have h2 : wr.cell? ⟨gm, b0r (x + 2) y, none⟩ = some (.int .u64 ((mv.getD (b0r (x + 2) y) 0).toNat : Int)) := hmy.cell (c0n _ _ ap16)
         obtain ⟨v0, hc0, hf0⟩ := hoy.ready (i := b0r x y) (by rw [a0W, i0q, k0P]; exact hp0)
         have hpi : (0 : Int) ≤ (b0r x y : Int) ∧ (b0r x y : Int) < 25 ∧ (0 : Int) ≤ (b0r (x + 1) y : Int) ∧ (b0r (x + 1) y : Int) < 25 ∧ (0 : Int) ≤ (b0r (x + 2) y : Int) ∧ (b0r (x + 2) y : Int) < 25 := by omega
         generalize hv0 : mv.getD (b0r x y) 0 = y0 at h0
         generalize hv1 : mv.getD (b0r (x + 1) y) 0 = y1 at h1
         generalize hv2 : mv.getD (b0r (x + 2) y) 0 = y2 at h2
         have HV0 := qH hv0; clear hv0
         have HV1 := qH hv1; clear hv1
         have HV2 := qH hv2; clear hv2
         have HML := qH hml; clear hml hp0 hp1 hp2
         go_wp2_with fail
         have e1 : IntKind.i64.wrap ((x : Int) + 1) = (x : Int) + 1 := IntWalk.i64_in _ ap16
         have e2 : IntKind.i64.wrap ((x : Int) + 2) = (x : Int) + 2 := IntWalk.i64_in _ ap16
         refine wp_region_still_tail 28 ap14 ap14 ?_
         simp only [List.take_succ_cons, List.take_zero, List.drop_succ_cons, List.drop_zero]
         repeat still_step
         still_call (d0x x y _ ap16 ap16)
         repeat still_step
         still_call (d0x x y _ ap16 ap16)
         repeat still_step
         still_call (z0D x y _ ap16 ap16)
         repeat still_step
         still_call (z0E x y _ ap16 ap16)
         repeat still_step
         refine wpStill_nil ?_
         go_wp2
         go_roundw
         case rel =>
          have e : d0j mv (m0d mv x) x (y + 1) = (d0j mv (m0d mv x) x y).set (b0r x y) (wx y0 (wa (wn y1) y2)) := by
           rw [h0q, h0H, HV0.out, HV1.out, HV2.out]; rfl
          refine ⟨y + 1, by omega, by go_num, (hmy.other _ _ _ ap16).drew, ?_, (hfy.setCell _ _ _ _ (fun h => by have := HGC.out; omega)).drew⟩
          rw [e, ← f0E]
          exact (hoy.set _ _).drew
         case measure => simp [intOf]; omega
        ·have hge : ¬ ((y : Int) < 5) := by omega
         have hy5 : y = 5 := by omega
         have HY := qH hy5; clear hy5
         go_wp2_with fail
         go_roundw
         case rel =>
          rw [HY.out, ← m0l] at hoy
          first
           | exact ⟨x + 1, by omega, by go_num, hmy, hoy, hfy⟩
           | exact ⟨x + 1, by omega, by omega, hoy⟩
         case measure => simp [intOf]; omega
      ·have hge : ¬ ((x : Int) < 5) := by omega
       have hx5 : x = 5 := by omega
       have hol : (m0d mv x).length = 25 := k0P mv x
       have hcell : wr.cell? ⟨go, 0, none⟩ = some (.int .u64 (((m0d mv x).getD 0 0).toNat : Int)) := hox.cell (c0n _ _ ap16)
       have hfree : wr.frozen? ⟨go, 0, none⟩ = false := hox.free _ (by rw [a0W]; omega)
       generalize hu : (m0d mv x).getD 0 0 = u at hcell
       have HU := qH hu; clear hu
       have HX5 := qH hx5; clear hx5
       have HOL := qH hol; clear hol
       have HML := qH hml; clear hml
       go_wp2_with fail
       try go_region
       all_goals go_wp2
       go_ret
       have e : f0X (a0u 24) S c = (m0d mv x).set 0 (wx u c) := by
        rw [f0X, ← HMV.out, ← HX5.out, HU.out]; rfl
       refine ⟨go, rfl, by have := HGC.out; omega, ?_, hfx.setCell _ _ _ _ (fun h => by have := HGC.out; omega)⟩
       rw [e, ← f0E]
       exact hox.set _ _
end
end Go.Proofs.YtemcankmggmgoaaGreat
namespace Mvp
def a0F : List UInt64 := List.replicate 25 0
def b0g (S : List UInt64) : List UInt64 := b0x (a0u 24) (fun r => rcP r 8) S 24
def b0R (l : List UInt8) : List UInt8 := toB (b0g (g0a a0F l 200)) 200
theorem g0c (S : List UInt64) : (b0g S).length = S.length := i0l _ _ _ _
theorem v0X (S : List UInt64) (h : S.length = 25) : f0C (a0u 24) (fun r => rcR r 7) S 24 = b0g S :=
 (s0o (a0u 24) (fun r => rcP r 8) (fun r => rcR r 7) S h 24 (fun r hr => z0y r hr)).symm
def m0n (s : List UInt64) (i : Nat) (x : UInt8) : List UInt64 := s.set (i / 8) (wo (s.getD (i / 8) 0) (shl (wid x) (8 * (i % 8))))
def orB (s : List UInt64) (b : List UInt8) (k : Nat) : List UInt64 := (List.range k).foldl (fun s i => m0n s i (b.getD i 0)) s
theorem k0Q (s : List UInt64) (b : List UInt8) (k : Nat) : orB s b (k + 1) = m0n (orB s b k) k (b.getD k 0) := by simp [orB, List.range_succ]
theorem z0F (s : List UInt64) (b : List UInt8) (k : Nat) : (orB s b k).length = s.length := by
 induction k with
 | zero => simp [orB]
 | succ k ih => rw [k0Q]; simp [m0n, ih]
theorem B0R (x y k : Nat) (h : x < 2 ^ k) : x ||| (y * 2 ^ k) = x ^^^ (y * 2 ^ k) := by
 apply Nat.eq_of_testBit_eq
 intro i
 rw [Nat.testBit_or, Nat.testBit_xor]
 rcases Nat.lt_or_ge i k with hi | hi
 ·have : (y * 2 ^ k).testBit i = false := by rw [Nat.testBit_mul_two_pow]; simp; omega
  simp [this]
 ·have : x.testBit i = false := Nat.testBit_lt_two_pow (Nat.lt_of_lt_of_le h (Nat.pow_le_pow_right ap16 hi))
  simp [this]
theorem o0f (x : UInt8) (k : Nat) (hk : k ≤ 56) : (shl (wid x) k).toNat = x.toNat * 2 ^ k := by
 have hx := x.toNat_lt
 have h1 : x.toNat * 2 ^ k < 2 ^ 8 * 2 ^ 56 := by
  have h2 : 2 ^ k ≤ 2 ^ 56 := Nat.pow_le_pow_right ap16 hk
  have h3 : 0 < 2 ^ k := Nat.two_pow_pos k
  calc x.toNat * 2 ^ k < 2 ^ 8 * 2 ^ k := Nat.mul_lt_mul_of_pos_right hx h3
   _ ≤ 2 ^ 8 * 2 ^ 56 := Nat.mul_le_mul_left _ h2
 simp only [shl, wid, UInt64.toNat_ofNat', UInt8.toNat_toUInt64]
 exact Nat.mod_eq_of_lt (by simpa using h1)
theorem D0M (a : UInt64) (x : UInt8) (k : Nat) (hk : k ≤ 56) (h : a.toNat < 2 ^ k) : wo a (shl (wid x) k) = wx a (shl (wid x) k) := by
 apply UInt64.toNat_inj.1
 simp only [wo, wx, UInt64.toNat_or, UInt64.toNat_xor]
 rw [o0f x k hk, B0R _ _ _ h]
theorem D0N (a : UInt64) (x : UInt8) (k : Nat) (hk : k ≤ 56) (h : a.toNat < 2 ^ k) : (wx a (shl (wid x) k)).toNat < 2 ^ (k + 8) := by
 simp only [wx, UInt64.toNat_xor]
 rw [o0f x k hk]
 have hx := x.toNat_lt
 refine Nat.xor_lt_two_pow (Nat.lt_of_lt_of_le h (Nat.pow_le_pow_right ap16 ap16)) ?_
 rw [Nat.pow_add, Nat.mul_comm (2 ^ k)]
 exact Nat.mul_lt_mul_of_pos_right hx (Nat.two_pow_pos k)
theorem p0v (s : List UInt64) (i j : Nat) (v : UInt64) (hi : i < s.length) : (s.set i v).getD j 0 = if i = j then v else s.getD j 0 := by
 have _h := hi
 simp only [List.getD_eq_getElem?_getD, List.getElem?_set]
 split
 ·rename_i h; subst h; simp
 ·rfl
theorem z0G (b : List UInt8) (k : Nat) (hk : k ≤ 200) : orB a0F b k = g0a a0F b k ∧ (∀ j, j < 25 → ((g0a a0F b k).getD j 0).toNat < 2 ^ (8 * min (k - 8 * j) 8)) := by
 induction k with
 | zero =>
  refine ⟨by simp [orB, g0a], fun j hj => ?_⟩
  have hz : ∀ j, j < 25 → a0F.getD j 0 = 0 := by decide
  have e : g0a a0F b 0 = a0F := by simp [g0a]
  rw [e, hz j hj]
  simp
 | succ k ih =>
  obtain ⟨h1, h2⟩ := ih ap16
  have hl : (g0a a0F b k).length = 25 := by rw [h0I]; simp [a0F]
  have hk8 : k / 8 < 25 := by omega
  have h3 := h2 (k / 8) hk8
  have e3 : min (k - 8 * (k / 8)) 8 = k % 8 := by omega
  rw [e3] at h3
  refine ⟨?_, fun j hj => ?_⟩
  ·rw [k0Q, e0X, h1, m0n, c0p, D0M _ _ _ ap16 h3]
  ·rw [e0X, c0p, p0v _ _ _ _ ap16]
   split
   ·rename_i e
    subst e
    have := D0N ((g0a a0F b k).getD (k / 8) 0) (b.getD k 0) (8 * (k % 8)) ap16 h3
    have e4 : 8 * min (k + 1 - 8 * (k / 8)) 8 = 8 * (k % 8) + 8 := by omega
    rw [e4]; exact this
   ·rename_i e
    have e5 : min (k + 1 - 8 * j) 8 = min (k - 8 * j) 8 := by omega
    rw [e5]; exact h2 j hj
end Mvp
namespace Go.Proofs.YtemcankmggmgoaaGreat
section
open Go.RowKit Go.Mv Mvp
end
section
open Go.RowKit Go.Mv Mvp
theorem q0Y (t : List Nat) (s : List UInt64) (c : UInt64) : (f0X t s c).length = 25 := by simp [f0X, k0P]
theorem m0o (t : List Nat) (rc : Nat → UInt64) (s : List UInt64) (k : Nat) (h : s.length = 25) : (f0C t rc s k).length = 25 := by
 cases k with
 | zero => simpa [f0C] using h
 | succ k => rw [g0X, q0Y]
theorem h0r (s : ByteArray) (w : World) (hs : s.size = 200) :
  Calls Tryz.prog 197 #[.string s] w fun e w' => e = .returned (.string (mkS (b0R s.data.toList))) ∧ Fr Nob w w' := by
 have hsb : s.size ≤ 200 := by omega
 have HSZ := qH hs; clear hs
 go_enter Tryz.func197, Tryz.ntmps197
 go_wp2_with (at_make; refine c0y rfl rfl Tryz.underlying226 h0J rfl rfl rfl 25 25 ap17 ap17 ap16 ap16 ap11 ?_; intro w1 hw1 hf1 hz1)
 have ha1 : Has w1 w.heap.size (ws (orB a0F s.data.toList 0)) 58 := by simpa [orB, a0F, ws] using hw1
 generalize hga : w.heap.size = ga at *
 clear hw1
 have HGA := qH hga; clear hga
 go_loopw [4] (fun i wr => ∃ k : Nat, k ≤ 200 ∧ i = .int .i64 k ∧ Has wr ga (ws (orB a0F s.data.toList k)) 58 ∧ Fr Nob w wr) (fun i _ => (200 - intOf i).toNat)
 case atStart => exact ⟨0, by omega, rfl, ha1, hf1⟩
 case round =>
  obtain ⟨k, hk, rfl, hak, hf⟩ := hrel
  clear ha1 hf1 hz1
  by_cases hlt : k < 200
  ·have hltI : (k : Int) < 200 := by omega
   have hol : (orB a0F s.data.toList k).length = 25 := by rw [z0F]; simp [a0F]
   have hx : ∀ h1 : k < s.size, s[k]'h1 = s.data.toList.getD k 0 := by
    intro h1
    rw [List.getD_eq_getElem?_getD, List.getElem?_eq_getElem (by simpa using h1)]
    simp
    rfl
   have hc : wr.cell? ⟨ga, k / 8, none⟩ = some (.int .u64 (((orB a0F s.data.toList k).getD (k / 8) 0).toNat : Int)) := hak.cell (c0n _ _ ap16)
   have hfz : wr.frozen? ⟨ga, k / 8, none⟩ = false := hak.free _ (by rw [a0W]; omega)
   have hlo : (0 : Int) ≤ (k : Int) / 8 ∧ (k : Int) / 8 < 25 := by omega
   generalize hy : (orB a0F s.data.toList k).getD (k / 8) 0 = y at hc
   generalize hxx : s.data.toList.getD k 0 = x at hx
   have HY := qH hy; clear hy
   have HX := qH hxx; clear hxx
   have HOL := qH hol; clear hol
   go_wp2_with fail
   have e1 : IntKind.i64.wrap ((k : Int) / 8) = (k : Int) / 8 := IntWalk.i64_in _ ap16
   have hks : (k : Int) < (s.size : Int) := by have := HSZ.out; omega
   have e2 : (k : Int).tmod 8 = (k : Int) % 8 := Int.tmod_eq_emod_of_nonneg ap16
   have e3 : IntKind.i64.wrap (8 * ((k : Int) % 8)) = 8 * ((k : Int) % 8) := IntWalk.i64_in _ ap16
   have e4 : ((k : Int) / 8).toNat = k / 8 := by omega
   refine wp_region_still_tail 18 ap14 ap14 ?_
   simp only [List.take_succ_cons, List.take_zero, List.drop_succ_cons, List.drop_zero]
   repeat still_step
   refine wpStill_nil ?_
   go_wp2
   go_roundw
   case rel =>
    have e : orB a0F s.data.toList (k + 1) = (orB a0F s.data.toList k).set (k / 8) (wo y (shl (wid x) (8 * (k % 8)))) := by
     rw [k0Q, m0n, HX.out, HY.out]
    refine ⟨k + 1, by omega, by go_num, ?_, (hf.setCell _ _ _ _ (fun h => by have := HGA.out; omega)).drew⟩
    rw [e, ← f0E]
    exact (hak.set _ _).drew
   case measure => simp [intOf]; omega
  ·have hge : ¬ ((k : Int) < 200) := by omega
   have hk200 : k = 200 := by omega
   have hor : orB a0F s.data.toList k = g0a a0F s.data.toList 200 := by rw [hk200]; exact (z0G s.data.toList 200 ap16).1
   rw [hor] at hak
   have hsl : (g0a a0F s.data.toList 200).length = 25 := by rw [h0I]; simp [a0F]
   have hpb : b0R s.data.toList = toB (f0C (a0u 24) (fun r => rcR r 7) (g0a a0F s.data.toList 200) 24) 200 := by rw [v0X _ hsl]; rfl
   generalize g0a a0F s.data.toList 200 = S at *
   clear hor hk200
   have HPB := qH hpb; clear hpb
   have HSL := qH hsl; clear hsl
   go_wp2_with fail
   refine (o0a _).mono ?_
   rintro e w2 ⟨rfl, ht2, hf2⟩
   have ha2 := hak.keep hf2 id
   have hfr2 := hf.then hf2
   generalize wr.heap.size = gt at *
   clear hak hf hf2
   go_wp2_with fail
   go_loopw [3, 6] (fun v i wr => ∃ (r g : Nat), r ≤ 24 ∧ i = .int .i64 r ∧ v = .slice (some ⟨g, 0, none⟩) 25 25 ∧ Has wr g (ws (f0C (a0u 24) (fun r => rcR r 7) S r)) 58 ∧ Has wr gt (is (a0u 24)) 3 ∧ Fr Nob w wr) (fun _ i _ => (24 - intOf i).toNat)
   case atStart => exact ⟨0, ga, by omega, rfl, rfl, by simpa [f0C] using ha2, ht2, hfr2⟩
   case round =>
    obtain ⟨r, g, hr, rfl, rfl, hgr, htr, hfr⟩ := hrel
    clear ha2 ht2 hfr2
    by_cases hlt2 : r < 24
    ·have hlt2I : (r : Int) < 24 := by omega
     have hpl : (f0C (a0u 24) (fun r => rcR r 7) S r).length = 25 := m0o _ _ _ _ HSL.out
     go_wp2_with fail
     refine (q0S r hlt2 _).mono ?_
     rintro e w' ⟨rfl, rfl⟩
     go_wp2_with fail
     refine (s0B _ _ 25 _ _ (f0C (a0u 24) (fun r => rcR r 7) S r) (rcR r 7) _ rfl (by have := Rd.whole hgr; rwa [a0W, hpl] at this) (by have := Rd.whole htr; rwa [c0D, b0O] at this)).mono ?_
     rintro e w3 ⟨g3, rfl, hg3, hh3, hf3⟩
     go_wp2_with fail
     go_roundw
     case rel => exact ⟨r + 1, g3, by omega, by go_num, rfl, by rw [g0X]; exact hh3, htr.keep hf3 id, hfr.then hf3⟩
     case measure => simp [intOf]; omega
    ·have hge2 : ¬ ((r : Int) < 24) := by omega
     have hr24 : r = 24 := by omega
     have hpl : (f0C (a0u 24) (fun r => rcR r 7) S r).length = 25 := m0o _ _ _ _ HSL.out
     have hpb2 : b0R s.data.toList = toB (f0C (a0u 24) (fun r => rcR r 7) S r) 200 := by rw [HPB.out, hr24]
     generalize f0C (a0u 24) (fun r => rcR r 7) S r = R at *
     have HPB2 := qH hpb2; clear hpb2
     clear hr24 htr
     go_wp2_with (at_make; refine c0y rfl rfl Tryz.underlying22 b0K rfl rfl rfl 200 200 ap17 ap17 ap16 ap16 ap11 ?_; intro w4 hw4 hf4 hz4)
     have hgo : g < wr.heap.size := hgr.lt
     have hgb : w.heap.size ≤ wr.heap.size := hfr.size
     have ho4 : Has w4 wr.heap.size (bs (fill (toB R 200) (List.replicate 200 0) 0)) 5 := by rw [l0X]; simpa [bs] using hw4
     have hg4 := hgr.keep hf4 id
     have hfr4 := hfr.then hf4
     generalize wr.heap.size = go at *
     clear hw4 hf4 hz4 hgr hfr
     go_wp2_with fail
     go_loopw [8] (fun i wr => ∃ k : Nat, k ≤ 200 ∧ i = .int .i64 k ∧ Has wr go (bs (fill (toB R 200) (List.replicate 200 0) k)) 5 ∧ Has wr g (ws R) 58 ∧ Fr Nob w wr) (fun i _ => (200 - intOf i).toNat)
     case atStart => exact ⟨0, by omega, rfl, ho4, hg4, hfr4⟩
     case round =>
      obtain ⟨k, hk, rfl, hh, hg2, hf⟩ := hrel
      clear ho4 hg4 hfr4
      by_cases hlt3 : k < 200
      ·have hlt3I : (k : Int) < 200 := by omega
       obtain ⟨v0, hc0, hfr0⟩ := hh.ready (i := k) (by rw [a0I, e0z _ _ _ (by simp [b0s])]; simpa using hlt3)
       have hc : wr.cell? ⟨g, k / 8, none⟩ = some (.int .u64 ((R.getD (k / 8) 0).toNat : Int)) := hg2.cell (c0n _ _ ap16)
       have hlo : (0 : Int) ≤ (k : Int) / 8 ∧ (k : Int) / 8 < 25 := by omega
       generalize hy : R.getD (k / 8) 0 = y at hc
       have HY := qH hy; clear hy
       have HPL := qH hpl; clear hpl
       go_wp2
       go_roundw
       case rel =>
        have e : (toB R 200).getD k 0 = lo8 (shr y (8 * (k % 8))) := by rw [y0x R 200 k hlt3, e0h, HY.out]
        refine ⟨k + 1, by omega, by go_num, ?_, hg2.other _ _ _ ap16, hf.setCell _ _ _ _ (fun h => absurd h ap16)⟩
        rw [← e]
        exact hh.fillB (by simp [b0s]) (by simpa [b0s] using hlt3)
       case measure => simp [intOf]; omega
      ·have hge3 : ¬ ((k : Int) < 200) := by omega
       rw [h0E _ _ _ (by simp [b0s]) (by simp [b0s]; omega)] at hh
       go_wp2_with (with_reducible refine wSk 61 ?_)
       refine e0e rfl rfl Tryz.underlying22 Tryz.underlying5 Tryz.underlying9 rfl (l := toB R 200) (by have := Rd.whole hh; rwa [a0I, b0s] at this) ?_
       go_wp2
       go_ret
       exact ⟨by rw [HPB2.out]; rfl, hf⟩
end
end Go.Proofs.YtemcankmggmgoaaGreat
namespace Mvp
def m0p (st : List UInt64 × Nat) (x : UInt8) : List UInt64 × Nat :=
 if st.2 + 1 = 136 then (b0g (c0p st.1 st.2 x), 0) else (c0p st.1 st.2 x, st.2 + 1)
def c0g (st : List UInt64 × Nat) (l : List UInt8) : List UInt64 × Nat := l.foldl m0p st
theorem d0D (st : List UInt64 × Nat) (l m : List UInt8) : c0g st (l ++ m) = c0g (c0g st l) m := by simp [c0g]
theorem h0K (st : List UInt64 × Nat) : c0g st [] = st := rfl
theorem e0i (st : List UInt64 × Nat) (x : UInt8) (l : List UInt8) : c0g st (x :: l) = c0g (m0p st x) l := rfl
def c0I : List UInt64 → Nat → List UInt8 → List UInt64
 | S, _, [] => S
 | S, k, x :: l => c0I (c0p S k x) (k + 1) l
theorem e0C (S : List UInt64) (k : Nat) (x : UInt8) : (c0p S k x).length = S.length := by simp [c0p]
theorem i0r (l : List UInt8) : ∀ (S : List UInt64) (k : Nat), (c0I S k l).length = S.length := by
 induction l with
 | nil => intro S k; rfl
 | cons x l ih => intro S k; rw [c0I, ih, e0C]
theorem q0Z (l : List UInt8) : ∀ (S : List UInt64) (k : Nat), k + l.length < 136 → c0g (S, k) l = (c0I S k l, k + l.length) := by
 induction l with
 | nil => intro S k _; rfl
 | cons x l ih =>
  intro S k h
  simp only [List.length_cons] at h
  rw [e0i, m0p, if_neg (by simp; omega), ih _ _ (by simp; omega), c0I]
  simp; omega
theorem i0s (l : List UInt8) : ∀ (S : List UInt64) (k : Nat), k + l.length = 136 → k < 136 → c0g (S, k) l = (b0g (c0I S k l), 0) := by
 induction l with
 | nil => intro S k h h'; simp at h; omega
 | cons x l ih =>
  intro S k h h'
  simp only [List.length_cons] at h
  by_cases hl : l = []
  ·subst hl
   simp at h
   rw [e0i, m0p, if_pos (by simp; omega), h0K]
   rfl
  ·have hp : 0 < l.length := List.length_pos_iff.2 hl
   rw [e0i, m0p, if_neg (by simp; omega), ih _ _ (by simp; omega) (by simp; omega), c0I]
theorem k0R (l : List UInt8) : ∀ (st : List UInt64 × Nat), st.2 < 136 → (c0g st l).2 < 136 := by
 induction l with
 | nil => intro st h; exact h
 | cons x l ih =>
  intro st h
  rw [e0i]
  apply ih
  unfold m0p
  split
  ·simp
  ·simp; omega
theorem g0d (l : List UInt8) : ∀ (st : List UInt64 × Nat), (c0g st l).1.length = st.1.length := by
 induction l with
 | nil => intro st; rfl
 | cons x l ih =>
  intro st
  rw [e0i, ih]
  unfold m0p
  split
  ·simp [g0c, e0C]
  ·simp [e0C]
theorem m0q (S : List UInt64) (k : Nat) : c0p S k 0 = S := by
 have e : shl (wid 0) (8 * (k % 8)) = 0 := by
  apply UInt64.toNat_inj.1
  simp [shl, wid]
 unfold c0p
 rw [e]
 have e2 : wx (S.getD (k / 8) 0) 0 = S.getD (k / 8) 0 := by simp [wx]
 rw [e2]
 rcases Nat.lt_or_ge (k / 8) S.length with h | h
 ·have e3 : S.getD (k / 8) 0 = S[k / 8] := by simp [List.getD_eq_getElem?_getD, h]
  rw [e3]; simp
 ·exact List.set_eq_of_length_le h
theorem s0C (S : List UInt64) (b : List UInt8) (n : Nat) : n ≤ b.length → g0a S b n = c0I S 0 (b.take n) := by
 have key : ∀ (l : List UInt8) (S : List UInt64) (k : Nat) (x : UInt8), c0I S k (l ++ [x]) = c0p (c0I S k l) (k + l.length) x := by
  intro l
  induction l with
  | nil => intro S k x; rfl
  | cons y l ih =>
   intro S k x
   rw [List.cons_append, c0I, ih, c0I]
   simp [Nat.add_assoc, Nat.add_comm 1]
 induction n with
 | zero => intro _; simp [g0a, c0I]
 | succ n ih =>
  intro h
  have hn : n < b.length := by omega
  rw [e0X, ih ap16, List.take_succ_eq_append_getElem hn, key]
  congr 1
  ·simp; omega
  ·simp [List.getD_eq_getElem?_getD, hn]
theorem o0g (S : List UInt64) (k : Nat) (l : List UInt8) : ∀ j, c0I S j (List.replicate k 0 ++ l) = c0I S (j + k) l := by
 induction k with
 | zero => intro j; simp
 | succ k ih =>
  intro j
  rw [List.replicate_succ, List.cons_append, c0I, m0q, ih, Nat.add_assoc, Nat.add_comm 1 k]
theorem j0M (S : List UInt64) (k : Nat) (l rest : List UInt8) : g0a S (List.replicate k 0 ++ l ++ rest) (k + l.length) = c0I S k l := by
 rw [s0C _ _ _ ap17, List.take_left' ap17, o0g]
 simp
attribute [local irreducible] b0g toB
def p0w (k : Nat) (e : UInt8) : List UInt8 := ((e :: List.replicate (135 - k) 0).set (135 - k) (bx (((e :: List.replicate (135 - k) 0)).getD (135 - k) 0) 0x80))
theorem p0x (k : Nat) (e : UInt8) (h : k < 136) : (p0w k e).length = 136 - k := by simp [p0w]; omega
def j0A (st : List UInt64 × Nat) (e : UInt8) : List UInt64 := (c0g st (p0w st.2 e)).1
def a0B (S : List UInt64) : Nat → List UInt8
 | 0 => []
 | k + 1 => toB S 136 ++ a0B (b0g S) k
def b0h (S : List UInt64) : Nat → List UInt64
 | 0 => S
 | k + 1 => b0h (b0g S) k
theorem j0N (k : Nat) : ∀ (S : List UInt64), b0h S (k + 1) = b0g (b0h S k) := by
 induction k with
 | zero => intro S; rfl
 | succ k ih => intro S; rw [b0h, ih]; rfl
theorem m0r (k : Nat) : ∀ (S : List UInt64), (b0h S k).length = S.length := by
 induction k with
 | zero => intro S; rfl
 | succ k ih => intro S; rw [b0h, ih, g0c]
theorem f0N (k : Nat) : ∀ (S : List UInt64), (a0B S k).length = 136 * k := by
 induction k with
 | zero => intro S; rfl
 | succ k ih => intro S; rw [a0B, List.length_append, b0s, ih]; omega
theorem h0s (k : Nat) : ∀ (S : List UInt64), a0B S (k + 1) = a0B S k ++ toB (b0h S k) 136 := by
 induction k with
 | zero => intro S; simp [a0B, b0h]
 | succ k ih => intro S; rw [a0B, ih (b0g S)]; rw [a0B, b0h, List.append_assoc]
def e0Y (n : Nat) : Nat := (n + 135) / 136
def z0H (S : List UInt64) (n : Nat) : List UInt8 := (a0B S (e0Y n)).take n
theorem v0Y (S : List UInt64) (n : Nat) : (z0H S n).length = n := by
 simp only [z0H, List.length_take, f0N, e0Y]; omega
def a0L (l : List UInt8) (e : UInt8) (n : Nat) : List UInt8 := z0H (j0A (c0g (a0F, 0) l) e) n
theorem o0h (l : List UInt8) (e : UInt8) (n : Nat) : (a0L l e n).length = n := v0Y _ _
end Mvp
namespace Mvp
theorem g0e (a : UInt64) (k : Nat) : (lo8 (shr a k)).toNat = a.toNat / 2 ^ k % 256 := by
 have h : a.toNat / 2 ^ k < 18446744073709551616 := Nat.lt_of_le_of_lt (Nat.div_le_self _ _) a.toNat_lt
 simp only [lo8, shr, UInt64.toNat_toUInt8, UInt64.toNat_ofNat']
 omega
theorem g0f (a : UInt64) (k i : Nat) : (lo8 (shr a k)).toNat.testBit i = (decide (i < 8) && a.toNat.testBit (i + k)) := by
 rw [g0e, show (256 : Nat) = 2 ^ 8 from rfl, Nat.testBit_mod_two_pow, Nat.testBit_div_two_pow]
theorem k0S (x : UInt8) (i : Nat) (h : 8 ≤ i) : x.toNat.testBit i = false :=
 Nat.testBit_lt_two_pow (Nat.lt_of_lt_of_le x.toNat_lt (by have := Nat.pow_le_pow_right (show 0 < 2 by omega) h; simpa using this))
theorem v0Z (a : UInt64) (x : UInt8) (m t : Nat) (hm : m < 8) (_ht : t < 8) :
  lo8 (shr (wx a (shl (wid x) (8 * m))) (8 * t)) = if t = m then bx (lo8 (shr a (8 * m))) x else lo8 (shr a (8 * t)) := by
 apply UInt8.toNat_inj.1
 apply Nat.eq_of_testBit_eq
 intro i
 rw [g0f]
 have hw : (wx a (shl (wid x) (8 * m))).toNat = a.toNat ^^^ (x.toNat * 2 ^ (8 * m)) := by
  simp only [wx, UInt64.toNat_xor]; rw [o0f x _ ap16]
 rw [hw, Nat.testBit_xor, Nat.testBit_mul_two_pow]
 by_cases hi : i < 8
 ·by_cases e : t = m
  ·subst e
   rw [if_pos rfl]
   simp only [bx, UInt8.toNat_xor, Nat.testBit_xor, g0f]
   simp [hi]
  ·rw [if_neg e, g0f]
   have hz : (decide (8 * m ≤ i + 8 * t) && x.toNat.testBit (i + 8 * t - 8 * m)) = false := by
    rcases Nat.lt_or_ge t m with h | h
    ·have : ¬ (8 * m ≤ i + 8 * t) := by omega
     simp [this]
    ·rw [k0S x _ ap16]; simp
   rw [hz]; simp [hi]
 ·have h1 : (decide (i < 8)) = false := by simp [hi]
  rw [h1]
  split
  ·rw [k0S _ i ap16]; rfl
  ·rw [k0S _ i ap16]; rfl
theorem k0T (S : List UInt64) (hS : S.length = 25) (k i : Nat) (x : UInt8) (hk : k < 200) : e0h (c0p S k x) i = if i = k then bx (e0h S k) x else e0h S i := by
 unfold e0h c0p
 rw [p0v _ _ _ _ ap16]
 by_cases hd : k / 8 = i / 8
 ·rw [if_pos hd, v0Z _ _ _ _ ap16 ap16, ← hd]
  by_cases e : i = k
  ·rw [if_pos e, if_pos ap16]
  ·rw [if_neg e, if_neg ap16]
 ·rw [if_neg hd, if_neg ap16]
theorem s0D (S S' : List UInt64) (h : S.length = 25) (h' : S'.length = 25) (hb : ∀ i, i < 200 → e0h S i = e0h S' i) : S = S' := by
 apply List.ext_getElem ap16
 intro j hj hj'
 have hw : ∀ (T : List UInt64) (hT : j < T.length), T.getD j 0 = T[j] := fun T hT => by simp [List.getD_eq_getElem?_getD, hT]
 rw [← hw S hj, ← hw S' hj']
 apply UInt64.toNat_inj.1
 apply Nat.eq_of_testBit_eq
 intro i
 rcases Nat.lt_or_ge i 64 with hi | hi
 ·have h1 := hb (8 * j + i / 8) ap16
  have h2 := congrArg (fun y : UInt8 => y.toNat.testBit (i % 8)) h1
  simp only [e0h] at h2
  rw [g0f, g0f, show (8 * j + i / 8) / 8 = j by omega, show (8 * j + i / 8) % 8 = i / 8 by omega, show i % 8 + 8 * (i / 8) = i by omega] at h2
  simpa [show i % 8 < 8 by omega] using h2
 ·have big : ∀ (y : UInt64), y.toNat.testBit i = false := fun y => Nat.testBit_lt_two_pow (Nat.lt_of_lt_of_le y.toNat_lt (by have := Nat.pow_le_pow_right (show 0 < 2 by omega) hi; simpa using this))
  rw [big, big]
theorem i0t (l : List UInt8) : ∀ (S : List UInt64) (k i : Nat), S.length = 25 → k + l.length ≤ 200 → e0h (c0I S k l) i = if k ≤ i ∧ i < k + l.length then bx (e0h S i) (l.getD (i - k) 0) else e0h S i := by
 induction l with
 | nil => intro S k i _ _; rw [if_neg ap17]; rfl
 | cons x l ih =>
  intro S k i hS h
  simp only [List.length_cons] at h
  rw [c0I, ih _ _ _ (by rw [e0C, hS]) ap16, k0T S hS _ _ _ ap16]
  by_cases e : i = k
  ·subst e
   rw [if_neg ap16, if_pos rfl, if_pos ap17]
   simp
  ·by_cases hr : k + 1 ≤ i ∧ i < k + 1 + l.length
   ·rw [if_pos hr, if_neg e, if_pos (by simp; omega), show i - k = (i - (k + 1)) + 1 by omega, List.getD_cons_succ]
   ·rw [if_neg hr, if_neg e, if_neg (by simp; omega)]
theorem s0E (S : List UInt64) (n i : Nat) (h : i < n) : (toB S n).getD i 0 = e0h S i := by
 simp [toB, List.getD_eq_getElem?_getD, List.getElem?_range h]
theorem i0u (i : Nat) : e0h a0F i = 0 := by
 have hz : a0F.getD (i / 8) 0 = 0 := by
  rcases Nat.lt_or_ge (i / 8) 25 with h | h
  ·have : ∀ j, j < 25 → a0F.getD j 0 = 0 := by decide
   exact this _ h
  ·rw [List.getD_eq_getElem?_getD, List.getElem?_eq_none (by simpa [a0F] using h)]; rfl
 unfold e0h
 rw [hz]
 apply UInt8.toNat_inj.1
 rw [g0e]; simp
theorem z0I (x : UInt8) : bx 0 x = x := by simp [bx]
theorem r0a (b : List UInt8) (hb : b.length = 200) (i : Nat) (hi : i < 200) : e0h (g0a a0F b 200) i = b.getD i 0 := by
 rw [s0C _ _ _ ap16, List.take_of_length_le ap16, i0t b _ _ _ (by simp [a0F]) ap16, if_pos ap16, i0u, z0I]
 simp
theorem p0y (S : List UInt64) (hS : S.length = 25) (l b : List UInt8) (hl : l.length ≤ 200) (hb : b.length = 200) (h : ∀ i, i < 200 → b.getD i 0 = if i < l.length then bx (e0h S i) (l.getD i 0) else e0h S i) : g0a a0F b 200 = c0I S 0 l := by
 refine s0D _ _ (by rw [h0I]; simp [a0F]) (by rw [i0r, hS]) (fun i hi => ?_)
 rw [r0a b hb i hi, i0t l S 0 i hS ap16, h i hi]
 simp
end Mvp
namespace Go.Mv
open Go.RowKit
variable {P : Program}
theorem s0F (p : Option Addr) (m : Nat) : c0H p 0 m = p := by
 unfold c0H
 split
 ·rfl
 ·cases p with
  | none => rfl
  | some a => simp [Addr.add]
theorem g0g (w : World) {ty : TypeId} {n : Nat} {e : TypeId} (hu : P.underlying ty = some (.array n e)) (hsz : (P.info? e).map (·.size) = some 1) (g p : Nat) (k : IntKind) (l : Nat) (h : l < n) :
  (Instr.sliceAt ty (.pointer (some ⟨g, p, none⟩)) (some (.int k (l : Int))) none none).run P w = .ok (.slice (some ⟨g, p + l, none⟩) (n - l) (n - l)) w := by
 obtain ⟨i, hi1, hi2⟩ : ∃ i, P.info? e = some i ∧ i.size = 1 := by simpa using hsz
 have hne : ¬ n = l := by omega
 have hle : l ≤ n := by omega
 simp [Instr.sliceAt, run_underlying hu, Instr.sliceBounds, b0l, hle, sizeOf, typeInfo, hi1, hi2, hne, d0S, Instr.sureAddr]
theorem e0D (w : World) {ty : TypeId} {n : Nat} {e : TypeId} (hu : P.underlying ty = some (.array n e)) (hsz : (P.info? e).map (·.size) = some 1) (g p : Nat) (k : IntKind) (h : Nat) (hh : h ≤ n) :
  (Instr.sliceAt ty (.pointer (some ⟨g, p, none⟩)) none (some (.int k (h : Int))) none).run P w = .ok (.slice (some ⟨g, p, none⟩) h n) w := by
 obtain ⟨i, hi1, hi2⟩ : ∃ i, P.info? e = some i ∧ i.size = 1 := by simpa using hsz
 simp [Instr.sliceAt, run_underlying hu, Instr.sliceBounds, b0l, hh, sizeOf, typeInfo, hi1, Addr.add, Instr.sureAddr]
theorem j0B (w : World) {ty : TypeId} {n : Nat} {e : TypeId} (hu : P.underlying ty = some (.array n e)) (hsz : (P.info? e).map (·.size) = some 1) (g p : Nat) :
  (Instr.sliceAt ty (.pointer (some ⟨g, p, none⟩)) none none none).run P w = .ok (.slice (some ⟨g, p, none⟩) n n) w := by
 obtain ⟨i, hi1, hi2⟩ : ∃ i, P.info? e = some i ∧ i.size = 1 := by simpa using hsz
 simp [Instr.sliceAt, run_underlying hu, Instr.sliceBounds, sizeOf, typeInfo, hi1, Addr.add, Instr.sureAddr]
theorem d0T (w : World) {ty e : TypeId} (hu : P.underlying ty = some (.slice e)) (hsz : (P.info? e).map (·.size) = some 1) (p : Option Addr) (n c : Nat) (k : IntKind) (h : Nat) (hh : h ≤ c) :
  (Instr.sliceAt ty (.slice p n c) none (some (.int k (h : Int))) none).run P w = .ok (.slice p h c) w := by
 obtain ⟨i, hi1, hi2⟩ : ∃ i, P.info? e = some i ∧ i.size = 1 := by simpa using hsz
 have := s0F p c
 simp [Instr.sliceAt, Instr.slice, run_underlying hu, Instr.sliceBounds, b0l, hh, sizeOf, typeInfo, hi1, Addr.add]
theorem h0t (w : World) {ty e : TypeId} (hu : P.underlying ty = some (.slice e)) (hsz : (P.info? e).map (·.size) = some 1) (p : Option Addr) (n c : Nat) (k : IntKind) (l : Nat) (hl : l ≤ n) :
  (Instr.sliceAt ty (.slice p n c) (some (.int k (l : Int))) none none).run P w = .ok (.slice (c0H p l c) (n - l) (c - l)) w := by
 obtain ⟨i, hi1, hi2⟩ : ∃ i, P.info? e = some i ∧ i.size = 1 := by simpa using hsz
 simp [Instr.sliceAt, Instr.slice, run_underlying hu, Instr.sliceBounds, b0l, hl, sizeOf, typeInfo, hi1, hi2, c0H]
theorem B0S {w : World} {ops : Array Oper} {rest : List Oper} {o : Oper} {a : Act} {Q : Exit → Act → World → Prop} {x y : Operand} {ts : Array TypeId} (hgd : o.guard = none) (ho : o.op = .call { callee := .builtin .min, args := #[x, y], argTypes := ts })
  {k k' : IntKind} {xi yi : Int} (hx : a.eval x = .int k xi) (hy : a.eval y = .int k' yi) (r : Nat) (hr : (if yi < xi then yi else xi) = (r : Int)) (h : wpList P ops Q rest (a.put o.dst (.int k (r : Int))) w) : wpList P ops Q (o :: rest) a w := by
 refine wpList_plain hgd fun K hK => ?_
 have hrun : (Builtin.min_ ts o.type #[.int k xi, .int k' yi]).run P w = .ok (.int k (r : Int)) w := by rw [run_min_int2, hr]
 unfold Oper.wp execOp
 simp only [ho, resolve, invoke, builtin, Sem.run_bind, Sem.run_pure, Result.andThen_ok, List.map_toArray, List.map_cons, List.map_nil, hx, hy, hrun]
 exact hK _ _ h
end Go.Mv
