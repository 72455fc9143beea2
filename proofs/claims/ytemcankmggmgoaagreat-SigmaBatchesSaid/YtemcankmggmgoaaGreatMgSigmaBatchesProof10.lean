/- ; ; ; ; ; ; ; . -/
import Derived.Test.YtemcankmggmgoaaGreatMgSigmaBatchesProof9
import Derived.Test.YtemcankmggmgoaaGreatMgSigmaBatchesProof7
import Derived.Test.YtemcankmggmgoaaGreatMgSigmaBatchesProof4
import Derived.Test.YtemcankmggmgoaaGreatMgSigmaBatchesProof2
import Derived.Test.YtemcankmggmgoaaGreatMgSigmaBatchesProof3
import Derived.Test.YtemcankmggmgoaaGreatMgSigmaBatchesProof1
import Derived.Lib.SlBytesConst
set_option maxHeartbeats 16000000
set_option maxRecDepth 1000000
open Go.Proofs.Tryz

namespace Go.Proofs.YtemcankmggmgoaaGreat
section
open Go.RowKit Go.Mv Mvp Mvq
theorem iC {α : Type} {motive : List α → Prop} (nil : motive []) (snoc : ∀ l x, motive l → motive (l ++ [x])) (l : List α) : motive l := by
 have h : ∀ r : List α, motive r.reverse := by
  intro r
  induction r with
  | nil => exact nil
  | cons x r ih => rw [List.reverse_cons]; exact snoc _ _ ih
 have := h l.reverse
 rwa [List.reverse_reverse] at this
abbrev Trp := List UInt8 × List UInt8 × List UInt8
def btL (st : List UInt8) (l : List Trp) : List UInt8 := l.foldl (fun s x => fZ s [(sE, x.1), (e0g, x.2.1), (e0f, x.2.2)]) st
theorem a0q (st : List UInt8) (l : List Trp) (x : Trp) : btL st (l ++ [x]) = fZ (btL st l) [(sE, x.1), (e0g, x.2.1), (e0f, x.2.2)] := by unfold btL; rw [List.foldl_append]; rfl
def wSt (st : List UInt8) : Nat → List UInt8
 | 0 => st
 | i + 1 => dX nR [wSt st i, pA]
def wN (st : List UInt8) (i : Nat) : Nat := a0e (wSt st i) pA
theorem r0O (st : List UInt8) (i : Nat) : wN st i < mQ.M := j0g _ _
def zN (x : Trp) : Nat := beN (x.2.2.drop 33)
def cN (x : Trp) : Nat := cU x.1 (x.2.2.take 33) x.2.1
structure Acc where
 i : Nat
 X : Nat
 xs : List Nat
 ps : List (List UInt8)
def a0r (st : List UInt8) (a : Acc) (x : Trp) : Acc := ⟨a.i + 1, a.X + wN st a.i * zN x, a.xs ++ [mQ.M - wN st a.i % mQ.M, mQ.M - wN st a.i * cN x % mQ.M], a.ps ++ [x.2.2.take 33, x.1]⟩
def bA (st : List UInt8) (l : List Trp) : Acc := l.foldl (a0r st) ⟨0, 0, [], []⟩
theorem oG (st : List UInt8) (l : List Trp) (x : Trp) : bA st (l ++ [x]) = a0r st (bA st l) x := by unfold bA; rw [List.foldl_append]; rfl
theorem s0q (st : List UInt8) (l : List Trp) : (bA st l).i = l.length := by
 induction l using iC with
 | nil => rfl
 | snoc l x ih => rw [oG]; simp [a0r, ih]
theorem xZ (st : List UInt8) (l : List Trp) : (bA st l).xs.length = 2 * l.length ∧ (bA st l).ps.length = 2 * l.length := by
 induction l using iC with
 | nil => exact ⟨rfl, rfl⟩
 | snoc l x ih => rw [oG]; simp [a0r, ih]; omega
noncomputable def bR (st : List UInt8) (l : List Trp) : Nat × Pt := l.foldl (fun r x => (r.1 + 1, cE r.2 (cE (bV (wN st r.1) (fD (x.2.2.take 33))) (bV (wN st r.1 * cN x) (fD x.1))))) (0, .O)
theorem vL (st : List UInt8) (l : List Trp) (x : Trp) : bR st (l ++ [x]) = ((bR st l).1 + 1, cE (bR st l).2 (cE (bV (wN st (bR st l).1) (fD (x.2.2.take 33))) (bV (wN st (bR st l).1 * cN x) (fD x.1)))) := by unfold bR; rw [List.foldl_append]; rfl
theorem s0X (st : List UInt8) (l : List Trp) : (bR st l).1 = l.length := by
 induction l using iC with
 | nil => rfl
 | snoc l x ih => rw [vL]; simp [ih]
def okT (x : Trp) : Bool := rdG x.1 x.2.2
theorem c0i {x : Trp} (h : okT x = true) : dM (x.2.2.take 33) = true ∧ dM x.1 = true := by
 unfold okT rdG at h
 simp only [Bool.and_eq_true] at h
 exact ⟨h.2.2.1, j0Q h.1⟩
theorem r0P (st : List UInt8) (l : List Trp) (h : ∀ x ∈ l, okT x = true) : onC (bR st l).2 := by
 induction l using iC with
 | nil => trivial
 | snoc l x ih =>
  have hx := c0i (h x Ae)
  rw [vL]
  exact eL (ih fun y hy => h y (by simp [hy])) (eL (bU (qU hx.1) _) (bU (qU hx.2) _))
theorem r0Q (st : List UInt8) (l : List Trp) (h : ∀ x ∈ l, okT x = true) : ∀ p ∈ (bA st l).ps, dM p = true := by
 induction l using iC with
 | nil => intro p hp; cases hp
 | snoc l x ih =>
  have hx := c0i (h x Ae)
  intro p hp
  rw [oG] at hp
  simp only [a0r, List.mem_append, List.mem_cons, List.not_mem_nil, or_false] at hp
  rcases hp with hp | rfl | rfl
  ·exact ih (fun y hy => h y (by simp [hy])) p hp
  ·exact hx.1
  ·exact hx.2
theorem r0R {xs : List Nat} {ps : List (List UInt8)} (h : ∀ p ∈ ps, dM p = true) : ∀ t ∈ List.zipWith (fun x p => (x, fD p)) xs ps, onC t.2 := by
 induction xs generalizing ps with
 | nil => intro t ht; simp at ht
 | cons x xs ih =>
  cases ps with
  | nil => intro t ht; simp at ht
  | cons p ps =>
   intro t ht
   rw [List.zipWith_cons_cons] at ht
   rcases List.mem_cons.1 ht with rfl | ht
   ·exact qU (h p Ae)
   ·exact ih (fun q hq => h q (by simp [hq])) t ht
theorem p0I (st : List UInt8) (l : List Trp) (h : ∀ x ∈ l, okT x = true) : kA (List.zipWith (fun x p => (x, fD p)) (bA st l).xs (bA st l).ps) = lW (bR st l).2 := by
 induction l using iC with
 | nil => rfl
 | snoc l x ih =>
  have hx := c0i (h x Ae)
  have hl : ∀ y ∈ l, okT y = true := fun y hy => h y (by simp [hy])
  have hon := r0Q st l hl
  have hF := qU hx.1
  have hP := qU hx.2
  have hR := r0P st l hl
  rw [oG, vL, s0X]
  simp only [a0r, s0q]
  rw [List.zipWith_append (by rw [(xZ st l).1, (xZ st l).2])]
  simp only [List.zipWith_cons_cons, List.zipWith_nil_left]
  rw [show ∀ (L : List (Nat × Pt)) a b, L ++ [a, b] = (L ++ [a]) ++ [b] from fun L a b => by simp]
  have z1 := r0R (xs := (bA st l).xs) hon
  rw [pX _ _ _ (fun t ht => (List.mem_append.1 ht).elim (z1 t) fun k => by rw [List.mem_singleton.1 k]; exact hF) hP, pX _ _ _ z1 hF, ih hl]
  rw [d0E, e0S hF, e0S hP, cF (dZ hR) (dZ (bU hF _)) (dZ (bU hP _)), e0T hR (eL (bU hF _) (bU hP _)), e0T (bU hF _) (bU hP _)]
theorem r0S (st : List UInt8) (l : List Trp) (h : ∀ x ∈ l, okT x = true) (hn : l.length ≤ 64) : rO (zB ((bA st l).X :: (bA st l).xs)) (cK gP :: (bA st l).ps) = cK (cE (bV (bA st l).X gP) (lW (bR st l).2)) := by
 rw [r0M _ _ (by simp [(xZ st l).1, (xZ st l).2]) (by simp [(xZ st l).1]; omega) (by
  intro p hp
  rcases List.mem_cons.1 hp with rfl | hp
  ·exact (b0Q pZ).1
  ·exact r0Q st l h p hp)]
 simp only [List.zipWith_cons_cons, kA]
 rw [(b0Q pZ).2, p0I st l h]
theorem s0Y {a b : Pt} (ha : onC a) (hb : onC b) : cE a (lW b) = .O ↔ a = b := by
 constructor
 ·intro h
  refine jP (dZ hb) ha hb ?_
  rw [fG, h, fG, fC]
 ·rintro rfl
  exact fC
open Classical in
noncomputable def btB (st : List UInt8) (l : List Trp) : Bool := l.all okT && decide (bV (bA st l).X gP = (bR st l).2)
open Classical in
theorem r0T (st : List UInt8) (l : List Trp) (h : ∀ x ∈ l, okT x = true) : ((((cK (cE (bV (bA st l).X gP) (lW (bR st l).2))).getD 0 0).toNat : Int) == 0) = btB st l := by
 unfold btB
 rw [t0r, List.all_eq_true.2 h, Bool.true_and]
 exact decide_eq_decide.2 (s0Y (bU pZ _) (r0P st l h))
open Classical in
theorem r0U (st : List UInt8) (l : List Trp) (h : ∀ x ∈ l, veB x.1 x.2.1 x.2.2 = true) : btB st l = true := by
 have hg : ∀ x ∈ l, okT x = true := fun x hx => by
  cases h2 : okT x with
  | true => rfl
  | false => have h3 := h x hx; rw [s0W h2] at h3; cases h3
 have key : bV (bA st l).X gP = (bR st l).2 := by
  induction l using iC with
  | nil => rfl
  | snoc l x ih =>
   have hx := c0i (hg x Ae)
   have hv := h x Ae
   rw [n0r (hg x Ae)] at hv
   have hv2 := of_decide_eq_true hv
   rw [oG, vL, s0X]
   simp only [a0r, s0q]
   rw [eB pZ, ih (fun y hy => h y (by simp [hy])) (fun y hy => hg y (by simp [hy])), Nat.mul_comm, iB pZ]
   rw [show bV (zN x) gP = cE (fD (x.2.2.take 33)) (bV (cN x) (fD x.1)) from hv2, uR (qU hx.1) (bU (qU hx.2) _), Nat.mul_comm (wN st l.length) (cN x), iB (qU hx.2)]
 unfold btB
 rw [List.all_eq_true.2 hg, Bool.true_and]
 exact decide_eq_true key
end
section
open Go.RowKit Go.Mv Mvp Mvq
attribute [local irreducible] bI lw mix cw cT dG cS bQ aO beN dO cI dI bM bT elN mdL cL rtV dW cK dM fD dE gY xV rO bV cO dD toB aW bG cR eD bH eU cA bD dX fZ cM oD sgF sgZ cU chN dS eM tS kA
end
section
open Go.RowKit Go.Mv Mvp Mvq
attribute [local irreducible] bI lw mix cw cT dG cS bQ aO beN dO cI dI bM bT elN mdL cL rtV dW cK dM fD dE gY xV rO bV cO dD toB aW bG cR eD bH eU cA bD dX fZ cM oD sgF sgZ cU chN dS eM tS kA
end
end Go.Proofs.YtemcankmggmgoaaGreat
namespace Go.Mv
open Go.RowKit
variable {P : Program}
structure Ox where
 v : Value
 T : TypeId
 sz : Nat
 n : Nat
 L : List Value
structure OwS (w : World) (base : Nat) (X : Nat → Prop) (l : List Ox) : Prop where
 own : ∀ x ∈ l, Own w base x.T x.sz x.v x.n x.L
 off : ∀ x ∈ l, ∀ k, kH x.v k → ¬ X k
 sep : l.Pairwise fun a b => ∀ k, kH a.v k → ¬ kH b.v k
 lt : ∀ k, X k → k < w.heap.size
theorem OwS.nil {w : World} {base : Nat} {X : Nat → Prop} (h : ∀ k, X k → k < w.heap.size) : OwS w base X [] := ⟨by simp, by simp, List.Pairwise.nil, h⟩
theorem OwS.at {w : World} {base : Nat} {X : Nat → Prop} {l : List Ox} (h : OwS w base X l) (i : Nat) {x : Ox} (hi : l[i]? = some x) : Own w base x.T x.sz x.v x.n x.L := h.own x (List.mem_of_getElem? hi)
theorem OwS.keep {w w' : World} {base : Nat} {X : Nat → Prop} {l : List Ox} (h : OwS w base X l) {S : Nat → Prop} (hf : Fr S w w') (hS : ∀ k, S k → X k) : OwS w' base X l :=
 ⟨fun x hx => (h.own x hx).keep hf fun k hk hs => h.off x hx k hk (hS k hs), h.off, h.sep, fun k hk => Nat.lt_of_lt_of_le (h.lt k hk) hf.size⟩
theorem OwS.still {w w' : World} {base : Nat} {X : Nat → Prop} {l : List Ox} (h : OwS w base X l) (hf : Fr Nob w w') : OwS w' base X l := h.keep hf fun _ t => t.elim
theorem OwS.new {w w' : World} {base : Nat} {X : Nat → Prop} {l : List Ox} (h : OwS w base X l) (hf : Fr Nob w w') {x : Ox} (ho : Own w' w.heap.size x.T x.sz x.v x.n x.L) (hb : base ≤ w.heap.size) : OwS w' base X (l ++ [x]) := by
 have h2 := h.still hf
 refine ⟨?_, ?_, ?_, h2.lt⟩
 ·intro y hy
  rcases List.mem_append.1 hy with hy | hy
  ·exact h2.own y hy
  ·rw [List.mem_singleton.1 hy]; exact ho.mono hb
 ·intro y hy
  rcases List.mem_append.1 hy with hy | hy
  ·exact h2.off y hy
  ·rw [List.mem_singleton.1 hy]
   intro k hk hx
   have h3 := (ho.lt hk).1
   have h4 := h.lt k hx
   omega
 ·rw [List.pairwise_append]
  refine ⟨h.sep, by simp, fun a ha b hb2 k hk hk2 => ?_⟩
  rw [List.mem_singleton.1 hb2] at hk2
  have h3 := (ho.lt hk2).1
  have h4 := ((h.own a ha).lt hk).2
  omega
theorem OwS.sepAt {w : World} {base : Nat} {X : Nat → Prop} {l : List Ox} (h : OwS w base X l) {i j : Nat} {x y : Ox} (hi : l[i]? = some x) (hj : l[j]? = some y) (hij : i ≠ j) : ∀ k, kH x.v k → ¬ kH y.v k := by
 obtain ⟨hi1, rfl⟩ := List.getElem?_eq_some_iff.1 hi
 obtain ⟨hj1, rfl⟩ := List.getElem?_eq_some_iff.1 hj
 rcases Nat.lt_or_ge i j with k | k
 ·exact List.pairwise_iff_getElem.1 h.sep i j hi1 hj1 k
 ·exact fun b hb hc => List.pairwise_iff_getElem.1 h.sep j i hj1 hi1 Ab b hc hb
theorem OwS.put {w w' : World} {base : Nat} {X : Nat → Prop} {l : List Ox} (h : OwS w base X l) (i : Nat) {x y : Ox} (hi : l[i]? = some x) (hf : Fr (kH x.v) w w') (ho : Own w' base y.T y.sz y.v y.n y.L) (hb : y.v.ownBlock = x.v.ownBlock ∨ y.v.ownBlock = some w.heap.size) : OwS w' base X (l.set i y) := by
 obtain ⟨hi1, hi2⟩ := List.getElem?_eq_some_iff.1 hi
 have off : ∀ (z : Ox) (j : Nat), l[j]? = some z → i ≠ j → ∀ k, kH y.v k → ¬ kH z.v k := by
  intro z j hj hij k hk hz
  rcases hb with hb | hb
  ·exact h.sepAt hi hj hij k (by unfold kH at *; rw [← hb]; exact hk) hz
  ·have h3 := ((h.at j hj).lt hz).2
   have h4 : w.heap.size = k := by unfold kH at hk; rw [hb] at hk; exact Option.some.inj hk
   omega
 refine ⟨?_, ?_, ?_, fun k hk => Nat.lt_of_lt_of_le (h.lt k hk) hf.size⟩
 ·intro z hz
  obtain ⟨j, hj1, hj2⟩ := List.mem_iff_getElem.1 hz
  rw [List.length_set] at hj1
  rw [List.getElem_set] at hj2
  by_cases e : i = j
  ·rw [if_pos e] at hj2; subst hj2; exact ho
  ·rw [if_neg e] at hj2
   subst hj2
   exact (h.own _ (List.getElem_mem hj1)).keep hf fun k hk hs => h.sepAt hi (List.getElem?_eq_getElem hj1) e k hs hk
 ·intro z hz
  obtain ⟨j, hj1, hj2⟩ := List.mem_iff_getElem.1 hz
  rw [List.length_set] at hj1
  rw [List.getElem_set] at hj2
  by_cases e : i = j
  ·rw [if_pos e] at hj2
   subst hj2
   intro k hk hx
   rcases hb with hb | hb
   ·exact h.off x (List.mem_of_getElem? hi) k (by unfold kH at *; rw [← hb]; exact hk) hx
   ·have h3 := h.lt k hx
    have h4 : w.heap.size = k := by unfold kH at hk; rw [hb] at hk; exact Option.some.inj hk
    omega
  ·rw [if_neg e] at hj2
   subst hj2
   exact h.off _ (List.getElem_mem hj1)
 ·rw [List.pairwise_iff_getElem]
  intro j k hj hk hjk
  have e := List.pairwise_iff_getElem.1 h.sep j k (by simpa using hj) (by simpa using hk) hjk
  rw [List.getElem_set, List.getElem_set]
  have hj' : j < l.length := by simpa using hj
  have hk' : k < l.length := by simpa using hk
  by_cases e1 : i = j
  ·subst e1
   rw [if_pos rfl, if_neg Ab]
   exact off _ k (List.getElem?_eq_getElem hk') Ab
  ·rw [if_neg e1]
   by_cases e2 : i = k
   ·subst e2
    rw [if_pos rfl]
    exact fun b hb2 hc => off _ j (List.getElem?_eq_getElem hj') e1 b hc hb2
   ·rw [if_neg e2]; exact e
theorem OwS.ne {w : World} {base : Nat} {X : Nat → Prop} {l : List Ox} (h : OwS w base X l) (i : Nat) {x : Ox} (hi : l[i]? = some x) {g : Nat} (hg : X g) : ¬ kH x.v g := fun hk => h.off x (List.mem_of_getElem? hi) g hk hg
theorem OwS.grow {w w' : World} {base : Nat} {ks : List Nat} {l : List Ox} (h : OwS w base (fun k => k ∈ ks) l) (hf : Fr Nob w w') {g : Nat} (hg : w.heap.size ≤ g) (hlt : g < w'.heap.size) : OwS w' base (fun k => k ∈ g :: ks) l := by
 have h2 := h.still hf
 refine ⟨h2.own, fun x hx k hk hks => ?_, h2.sep, fun k hk => ?_⟩
 ·rcases List.mem_cons.1 hks with e | e
  ·subst e
   have := ((h.own x hx).lt hk).2
   omega
  ·exact h2.off x hx k hk e
 ·rcases List.mem_cons.1 hk with e | e
  ·subst e; exact hlt
  ·exact h2.lt k e
theorem OwS.mono {w : World} {base : Nat} {X Y : Nat → Prop} {l : List Ox} (h : OwS w base X l) (hs : ∀ k, Y k → X k) : OwS w base Y l :=
 ⟨h.own, fun x hx k hk hy => h.off x hx k hk (hs k hy), h.sep, fun k hk => h.lt k (hs k hk)⟩
theorem St.keepOs {S : Nat → Prop} {w0 w w' : World} {bl : List (Nat × List Value × TypeId)} (h : St S w0 w bl) {T : TypeId} {sz base : Nat} {v : Value} {n : Nat} {L : List Value} (ho : Own w base T sz v n L) (hb : w0.heap.size ≤ base) (hf : Fr (kH v) w w') (hne : ∀ x ∈ bl, ¬ kH v x.1) : St S w0 w' bl :=
 ⟨ho.fr h.fr hb hf, h.own, fun x hx => (h.has x hx).keep hf (hne x hx), h.ne⟩
theorem d0H (B : List Value) (o k : Nat) (cs : List Value) (h : o + k + cs.length ≤ B.length) : (splice B (o + k) cs).drop o = splice (B.drop o) k cs := by
 unfold splice
 have h1 : (B.take (o + k)).drop o = (B.drop o).take k := by rw [List.drop_take]; congr 1; omega
 rw [List.drop_append_of_le_length Ao, h1, List.drop_drop]
 congr 2
 congr 1
 omega
theorem c0j (B : List Value) (k m : Nat) (cs : List Value) (h : k + cs.length ≤ m) (hm : m ≤ B.length) : (splice B k cs).take m = splice (B.take m) k cs := by
 apply List.ext_getElem?
 intro i
 unfold splice
 have e1 : min k B.length = k := by omega
 have e2 : min k (min m B.length) = k := by omega
 simp only [List.getElem?_take, List.getElem?_append, List.length_take, List.getElem?_drop, e1, e2]
 by_cases h1 : i < m
 ·by_cases h3 : i < k
  ·simp only [h1, h3, if_true]
  ·by_cases h2 : i - k < cs.length
   ·simp only [h1, h3, h2, if_true, if_false]
   ·have h4 : k + cs.length + (i - k - cs.length) < m := by omega
    simp only [h1, h3, h2, h4, if_true, if_false]
 ·have h3 : ¬ i < k := by omega
  have h2 : ¬ i - k < cs.length := by omega
  have h4 : ¬ k + cs.length + (i - k - cs.length) < m := by omega
  simp only [h1, h3, h2, h4, if_false]
theorem Own.wrote {w w' : World} {base : Nat} {T : TypeId} {sz : Nat} {g o n cap : Nat} {L : List Value} (h : Own w base T sz (.slice (some ⟨g, o, none⟩) n cap) n L) {k : Nat} {cs : List Value} (hk : k + cs.length ≤ n * sz)
  (hw : ∀ B, Has w g B T → Has w' g (splice B (o + k) cs) T) : Own w' base T sz (.slice (some ⟨g, o, none⟩) n cap) n (splice L k cs) := by
 refine ⟨by rw [length_splice _ _ _ (by rw [h.1]; exact hk)]; exact h.1, .inr ?_⟩
 rcases h.2 with ⟨h2, -⟩ | ⟨g', o', cap', B, h2, hb, hh, hn, hm, hl, ht⟩
 ·cases h2
 ·cases h2
  have hle : n * sz ≤ cap * sz := Nat.mul_le_mul_right _ hn
  refine ⟨g, o, cap, _, rfl, hb, hw B hh, hn, hm, by rw [length_splice _ _ _ Ab]; exact hl, ?_⟩
  rw [d0H _ _ _ _ Ab, c0j _ _ _ _ hk Ao, ht]
section
variable {w : World} {ops : Array Oper} {rest : List Oper} {o : Oper} {a : Act} {Q : Exit → Act → World → Prop} {base : Nat} {X : Nat → Prop} {l : List Ox}
theorem fM (hos : OwS w base X l) (i : Nat) {v : Value} {e : TypeId} {sz n : Nat} {L : List Value} (hi : l[i]? = some ⟨v, e, sz, n, L⟩) {s x : Operand} {t : TypeId} (hgd : o.guard = none) (ho : o.op = .call { callee := .builtin .append, args := #[s, x], argTypes := #[t, t] })
  {z : Value} {by_ : Nat} (ht : P.underlying t = some (.slice e)) (hi0 : (P.info? e).map (fun i => (i.zero, i.size, i.bytes)) = some (some z, sz, by_)) (hzs : z.cells.size = sz) (hsz : 0 < sz) (hs : a.eval s = v)
  {xa : Option Addr} {m c : Nat} {news : List Value} (hx : a.eval x = .slice xa m c) (hnews : Rd w xa (m * sz) news) (h1 : ∀ u ∈ news, u.oneCell' = true)
  (h63 : n + m ≤ maxLen) (hbytes : (n + m) * by_ ≤ 140737488355328) (hbase : base ≤ w.heap.size)
  (h : ∀ v' w', OwS w' base X (l.set i ⟨v', e, sz, n + m, L ++ news⟩) → Fr (kH v) w w' → wpList P ops Q rest (a.put o.dst v') w') : wpList P ops Q (o :: rest) a w :=
 gG hgd ho ht hi0 hzs hsz (hos.at i hi) hs hx hnews h1 h63 hbytes hbase fun v' w' h2 h3 h4 => h v' w' (hos.put i hi h3 h2 h4) h3
end
section
variable {w : World} {o : Oper} {a : Act} {K : Act → World → Prop} {Q : Exit → Act → World → Prop} {base : Nat} {X : Nat → Prop} {l : List Ox}
theorem g0F (hos : OwS w base X l) (i : Nat) {v : Value} {e : TypeId} {sz n : Nat} {L : List Value} (hi : l[i]? = some ⟨v, e, sz, n, L⟩) {s x : Operand} {t : TypeId} (ho : o.op = .call { callee := .builtin .append, args := #[s, x], argTypes := #[t, t] })
  {z : Value} {by_ : Nat} (ht : P.underlying t = some (.slice e)) (hi0 : (P.info? e).map (fun i => (i.zero, i.size, i.bytes)) = some (some z, sz, by_)) (hzs : z.cells.size = sz) (hsz : 0 < sz) (hs : a.eval s = v)
  {xa : Option Addr} {m c : Nat} {news : List Value} (hx : a.eval x = .slice xa m c) (hnews : Rd w xa (m * sz) news) (h1 : ∀ u ∈ news, u.oneCell' = true)
  (h63 : n + m ≤ maxLen) (hbytes : (n + m) * by_ ≤ 140737488355328) (hbase : base ≤ w.heap.size)
  (h : ∀ v' w', OwS w' base X (l.set i ⟨v', e, sz, n + m, L ++ news⟩) → Fr (kH v) w w' → K (a.put o.dst v') w') : o.wp P a w K Q := by
 obtain ⟨v', w', hr, h2, h3, h4⟩ := nV (P := P) base t o.type e z sz by_ ht hi0 hzs hsz v n L (hos.at i hi) xa m c news hnews h1 h63 hbytes hbase
 unfold Oper.wp execOp
 simp only [ho, resolve, invoke, builtin, Sem.run_bind, Sem.run_pure, Result.andThen_ok, List.map_toArray, List.map_cons, List.map_nil, hs, hx, hr]
 exact h v' w' (hos.put i hi h3 h2 h4) h3
theorem j0R (hos : OwS w base X l) (i : Nat) {g o' n cap : Nat} {e : TypeId} {sz : Nat} {L : List Value} (hi : l[i]? = some ⟨.slice (some ⟨g, o', none⟩) n cap, e, sz, n, L⟩) {ty : TypeId} {x y : Operand} (ho : o.op = .store ty x y) {k : Nat} (hx : a.eval x = .pointer (some ⟨g, o' + k, none⟩)) {cs : List Value} (hy : a.eval y = .agg cs.toArray)
  (hk : k + cs.length ≤ n * sz) (hsi : (P.info? ty).map (·.size) = some cs.length) (h1 : ∀ v ∈ cs, v.oneCell' = true)
  (h : ∀ w', OwS w' base X (l.set i ⟨.slice (some ⟨g, o', none⟩) n cap, e, sz, n, splice L k cs⟩) → Fr (One g) w w' → K (a.put o.dst undef) w') : o.wp P a w K Q := by
 have how : Own w base e sz (.slice (some ⟨g, o', none⟩) n cap) n L := hos.at i hi
 have h2 : ∃ B, Has w g B e ∧ o' + n * sz ≤ B.length := by
  rcases how.2 with ⟨h2, -⟩ | ⟨g', o2, cap', B, h2, hb, hh, hn, hm, hl, ht⟩
  ·cases h2
  ·cases h2
   have hle : n * sz ≤ cap * sz := Nat.mul_le_mul_right _ hn
   exact ⟨B, hh, by omega⟩
 obtain ⟨B, hB, hlB⟩ := h2
 obtain ⟨k1, k2, _⟩ := Has.setCells cs (o' + k) B w hB Ab
 have hB2 : ∀ B', Has w g B' e → Has (w.setCells g (o' + k) cs) g (splice B' (o' + k) cs) e := by
  intro B' hB'
  have h3 : B' = B := by
   obtain ⟨_, _, e1, _⟩ := hB
   obtain ⟨_, _, e2, _⟩ := hB'
   rw [e1] at e2
   simp only [Option.some.injEq, Obj.cells.injEq] at e2
   have := congrArg Array.toList e2.1
   simpa using this.symm
  rw [h3]; exact k1
 have hf2 : Fr (kH (.slice (some ⟨g, o', none⟩) n cap)) w (w.setCells g (o' + k) cs) := k2.mono fun j _ e => by
  have e2 : j = g := e
  subst e2; rfl
 have fin := h _ (hos.put i hi hf2 (how.wrote hk hB2) (.inl rfl)) k2
 exact wp_store_mid ty x y ho g (o' + k) cs.toArray hx hy (by simpa using hB.there (o' + k) cs.length Ab) (by simpa using hsi) (all_oneCell_toArray h1) (by simpa using fin)
end
end Go.Mv
namespace Go.Proofs.YtemcankmggmgoaaGreat
open Go.RowKit Go.Mv Mvp Mvt
attribute [local irreducible] bI lw mix cw cT dG cS bQ aO beN dO cI dI bM bT elN mdL dE cL cO dD toB aW bG cR eD bH eU cA bD dX k0d
theorem s0r (p : Nat) (D : List UInt8) (w : World) (hp0 : 0 < p) (hp : p < B64 ^ 4) :
  Calls prog 96 #[fv p, .string (mkS (bH D 31 64))] w fun e w' => e = .returned (i4 (beN (bH D 31 64) % p)) ∧ Fr Nob w w' := by
 have h := o0p p (mkS (bH D 31 64)) w hp0 hp (by rw [aZ, tF]; decide)
 simpa [mkS] using h
end Go.Proofs.YtemcankmggmgoaaGreat
namespace Go.Mv
open Go.RowKit
variable {P : Program}
end Go.Mv
namespace Go.Mv
open Go.RowKit
variable {P : Program} {ops : Array Oper} {a : Act} {w : World} {rest : List Oper} {Q : Exit → Act → World → Prop} {o : Oper}
end Go.Mv
namespace Go.Proofs.YtemcankmggmgoaaGreat
open Go.RowKit Go.Mv Mvp Mvq
end Go.Proofs.YtemcankmggmgoaaGreat
namespace Go.Mv
open Go.RowKit Go.ChangeShapes Go.WideShapes
section
variable {H : Type} {enc : TypeId × Value → H} {P : Program} {w : World} {base : Nat} {held : Bool} {spare : Nat → Bool}
def r0V (P : Program) (t : TypeId) (d : DataW H) : Prop := ∀ k ∈ d.weights P t, k ≤ 140737488351232
theorem p0J {ts : List TypeId} {ds : List (DataW H)} (hz : (DataW.weightsEach P ts ds).all (· ≤ reachBytes) = true) {j : Nat} {t : TypeId} {d : DataW H} (ht : ts[j]? = some t) (hd : ds[j]? = some d) : r0V P t d := by
 intro k hk
 have := List.all_eq_true.1 hz k (DataW.weights_mem_each ht hd k hk)
 have hr : reachBytes = 140737488351232 := rfl
 rw [hr] at this
 simpa using this
def Reads (enc : TypeId × Value → H) (P : Program) (w : World) (spare : Nat → Bool) (held : Bool) (t : TypeId) (cs : List Value) : Prop := ∃ n y, DataW.trod enc P w 0 spare held n t cs = some y ∧ r0V P t y.1
theorem g0G {t e : TypeId} {sz : Nat} {cs : List Value} (ht : P.underlying t = some (.slice e)) (hsz : P.cellsOf e = sz) (hpos : 0 < sz) (h : Reads enc P w spare held t cs) :
  ∃ a c css, cs = [.slice a (List.length css) c] ∧ Rd w a (css.length * sz) css.flatten ∧ (∀ x ∈ css, x.length = sz ∧ Reads enc P w spare held e x) ∧ css.length ≤ c ∧ c ≤ 9223372036854775807 ∧ css.length * P.bytesOf e ≤ 140737488351232 := by
 obtain ⟨fuel, y, hf, hfit⟩ := h
 rcases DataW.trod_slice ht hf with ⟨hcs, hx⟩ | ⟨a, len, cap, elems, rest, n, _, rfl, rfl, hb, hl, hm, hlen, hel, hsp, hns⟩
 ·exact ⟨none, 0, [], hcs, by simpa using Rd.nil w none, by simp, by simp, by simp, by simp⟩
 ·have hget : ∀ i, (hi : i < len) → ∃ x : List Value, w.cells? 0 (a.add (i * P.cellsOf e)) (P.cellsOf e) = some x ∧ DataW.trod enc P w 0 spare held n e x = some (elems[i]'Ab) := fun i hi => by
   have := hel i hi
   rw [List.getElem?_eq_getElem Ab, Option.bind_eq_some_iff] at this
   exact this
  have hall : ∀ d ∈ elems.map (·.1), ∀ k ∈ d.weights P e, k ≤ 140737488351232 := fun d hd k hk => by
   refine hfit k ?_
   simp only [DataW.weights, ht, List.mem_cons, List.mem_append]
   exact .inr (.inl (nQ hd k hk))
  have hone : (elems.map (·.1)).length * P.bytesOf e ≤ 140737488351232 := by
   have h1 := hfit (((elems.map (·.1)).length + (rest.map (·.1)).length) * P.bytesOf e) (by simp [DataW.weights, ht])
   have h2 : (elems.map (·.1)).length * P.bytesOf e ≤ ((elems.map (·.1)).length + (rest.map (·.1)).length) * P.bytesOf e := Nat.mul_le_mul_right _ Ab
   omega
  let f : Nat → List Value := fun i => if hi : i < len then (hget i hi).choose else []
  have hf' : ∀ i, (hi : i < len) → w.cells? 0 (a.add (i * P.cellsOf e)) (P.cellsOf e) = some (f i) ∧ DataW.trod enc P w 0 spare held n e (f i) = some (elems[i]'Ab) := fun i hi => by
   have := (hget i hi).choose_spec
   simp only [f, dif_pos hi]
   exact this
  have hfl : ∀ i, (hi : i < len) → (f i).length = sz := fun i hi => by
   have := (World.cells?_some (hf' i hi).1).2.1
   rw [hsz] at this; exact this
  refine ⟨some a, cap, (List.range len).map f, by simp, ?_, ?_, by simpa using hl, by simpa [maxLen] using hm, by simpa [hlen] using hone⟩
  ·have hflat : ((List.range len).map f).flatten.length = len * sz := by
    have : ∀ m, m ≤ len → ((List.range m).map f).flatten.length = m * sz := by
     intro m
     induction m with
     | zero => intro _; simp
     | succ m ih =>
      intro hm
      rw [List.range_succ, List.map_append, List.flatten_append, List.length_append, ih Ab]
      simp only [List.map_cons, List.map_nil, List.flatten_cons, List.flatten_nil, List.append_nil]
      rw [hfl m Ab, Nat.succ_mul]
    exact this len (Nat.le_refl _)
   refine ⟨by rw [hflat]; simp, ?_⟩
   rcases Nat.eq_zero_or_pos len with h0 | h0
   ·left; simp [h0]
   ·right
    obtain ⟨b, o, spot⟩ := a
    have hspot : spot = none := by
     have h1 := (World.cells?_some (hf' 0 h0).1).2.2 0 Ab
     have h2 : (f 0)[0]? = some ((f 0)[0]'(by rw [hfl 0 h0]; exact hpos)) := List.getElem?_eq_getElem _
     rw [h2] at h1
     simpa [Addr.add] using World.cell?_spot h1
    subst hspot
    refine ⟨b, o, rfl, ?_⟩
    intro i v hv
    have hi : i < len * sz := by
     rcases Nat.lt_or_ge i (len * sz) with k | k
     ·exact k
     ·rw [List.getElem?_eq_none (by rw [hflat]; exact k)] at hv; cases hv
    have key : ∀ m, m ≤ len → ∀ i v, i < m * sz → ((List.range m).map f).flatten[i]? = some v → w.cell? ⟨b, o + i, none⟩ = some v := by
     intro m
     induction m with
     | zero => intro _ i v hi; omega
     | succ m ih =>
      intro hm i v hi hv
      rw [List.range_succ, List.map_append, List.flatten_append] at hv
      have hml : ((List.range m).map f).flatten.length = m * sz := by
       have : ∀ m, m ≤ len → ((List.range m).map f).flatten.length = m * sz := by
        intro m
        induction m with
        | zero => intro _; simp
        | succ m ih =>
         intro hm
         rw [List.range_succ, List.map_append, List.flatten_append, List.length_append, ih Ab]
         simp only [List.map_cons, List.map_nil, List.flatten_cons, List.flatten_nil, List.append_nil]
         rw [hfl m Ab, Nat.succ_mul]
       exact this m Ab
      by_cases hlt : i < m * sz
      ·rw [List.getElem?_append_left Ab] at hv
       exact ih Ab i v hlt hv
      ·rw [List.getElem?_append_right Ab, hml] at hv
       simp only [List.map_cons, List.map_nil, List.flatten_cons, List.flatten_nil, List.append_nil] at hv
       rw [Nat.succ_mul] at hi
       have h1 := (World.cells?_some (hf' m Ab).1).2.2 (i - m * sz) Ab
       rw [hv, hsz, hH, hH] at h1
       rwa [show o + m * sz + (i - m * sz) = o + i by omega] at h1
    exact key len (Nat.le_refl _) i v hi hv
  ·intro x hx
   simp only [List.mem_map, List.mem_range] at hx
   obtain ⟨i, hi, rfl⟩ := hx
   refine ⟨hfl i hi, n, _, (hf' i hi).2, ?_⟩
   exact hall _ (List.mem_map.2 ⟨elems[i]'Ab, List.getElem_mem _, rfl⟩)
theorem m0u {t : TypeId} {v : Value} {d : DataW H} {ps : List MemPlace} (h : DataW.Trod enc P w 0 spare held t v d ps) (hf : r0V P t d) : Reads enc P w spare held t v.cells.toList := by
 obtain ⟨n, h⟩ := h
 exact ⟨n, _, h, hf⟩
theorem j0S {t e : TypeId} {sz : Nat} {v : Value} {d : DataW H} {ps : List MemPlace} (ht : P.underlying t = some (.slice e)) (hsz : P.cellsOf e = sz) (hpos : 0 < sz) (hv : Value.okWide P w .any base t v) (h : DataW.Trod enc P w 0 spare held t v d ps) (hfit : r0V P t d) :
  ∃ a c css, v = .slice a (List.length css) c ∧ Rd w a (css.length * sz) css.flatten ∧ (∀ x ∈ css, x.length = sz ∧ Reads enc P w spare held e x) ∧ css.length ≤ c ∧ c ≤ 9223372036854775807 ∧ css.length * P.bytesOf e ≤ 140737488351232 := by
 obtain ⟨a0, len, cap, rfl⟩ := okWide_slice ht hv
 obtain ⟨a, c, css, h1, h2⟩ := g0G ht hsz hpos (m0u h hfit)
 simp only [Value.cells, List.cons.injEq, and_true] at h1
 exact ⟨a, c, css, h1, h2⟩
theorem Reads.string {t : TypeId} {cs : List Value} (ht : P.underlying t = some .string) (h : Reads enc P w spare held t cs) : ∃ l : List UInt8, cs = [.string (mkS l)] ∧ l.length ≤ 140737488351232 := by
 obtain ⟨n, y, h, hf⟩ := h
 obtain ⟨s, h1, h2, h3⟩ := DataW.trod_string ht h
 refine ⟨s.data.toList, by rw [h1, iS], ?_⟩
 rw [h2] at hf
 have := hf s.data.toList.length (by simp [DataW.weights])
 simpa using this
theorem Reads.int {t : TypeId} {k : IntKind} {cs : List Value} (ht : P.underlying t = some (.int k)) (h : Reads enc P w spare held t cs) : ∃ n : Int, cs = [.int k n] ∧ (Lit.int k n).wf = true := by
 obtain ⟨n, y, h, hf⟩ := h
 obtain ⟨s, h1, h2, h3⟩ := DataW.trod_int ht h
 exact ⟨s, h1, h3⟩
theorem vM {ts : List TypeId} {ds : List (DataW H)} {j : Nat} {t : TypeId} {d : DataW H} (ht : ts[j]? = some t) (hd : ds[j]? = some d) : ∀ n ∈ d.weights P t, n ∈ DataW.weightsEach P ts ds := DataW.weights_mem_each ht hd
theorem Reads.struct {t : TypeId} {fs : Array Field} {cs : List Value} (ht : P.underlying t = some (.struct fs)) (h : Reads enc P w spare held t cs) : cs.length = P.cellsOf t ∧ ∀ (i : Nat) (f : Field), fs[i]? = some f → ∀ (u : TypeId) (o k : Nat), f.type = u → f.offset = o → P.cellsOf u = k → Reads enc P w spare held u ((cs.drop o).take k) := by
 obtain ⟨n, y, h, hf⟩ := h
 obtain ⟨xs, m, -, hx, hl, hxl, hi⟩ := DataW.trod_struct ht h
 refine ⟨hl, fun i f hfi u o k hu ho hk => ?_⟩
 subst hu ho hk
 have h1 := hi i f hfi
 have hlt : i < xs.length := by
  rw [hxl]; exact (Array.getElem?_eq_some_iff.1 hfi).1
 rw [List.getElem?_eq_getElem hlt] at h1
 refine ⟨m, _, h1, ?_⟩
 intro k hk
 refine hf k ?_
 rw [hx]
 simp only [DataW.weights, ht]
 exact vM (j := i) (by simp [hfi]) (by simp [List.getElem?_eq_getElem hlt]) k hk
theorem vN {α : Type} {f : α → List Value} : ∀ {css : List (List Value)}, (∀ x ∈ css, ∃ s, x = f s) → ∃ l : List α, css = l.map f
 | [], _ => ⟨[], rfl⟩
 | x :: css, h => by
  obtain ⟨s, hs⟩ := h x Ae
  obtain ⟨l, hl⟩ := vN (css := css) (fun y hy => h y (by simp [hy]))
  exact ⟨s :: l, by rw [hs, hl]; rfl⟩
end
end Go.Mv
