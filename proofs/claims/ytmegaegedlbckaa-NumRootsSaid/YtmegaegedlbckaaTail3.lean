/- A region that draws its order, as XTail's, where two operations of the head may come in either order (an allocation and a call). -/
import Derived.Test.YtmegaegedlbckaaTail
namespace Go.Mv
open Go.RowKit
section
variable {P : Program} {ops : Array Oper} {md : Region.Mode} {Q : Exit → Act → World → Prop} {S : World → Prop}

/-- orders of the head: t: it only yields a value; r: it is carried out; b: one of two is carried out -/
inductive Sc where
  | nil
  | t (i : Nat) (s : Sc)
  | r (i : Nat) (s : Sc)
  | b (i j : Nat) (s u : Sc)
def Sc.len : Sc → Nat
  | .nil => 0
  | .t _ s => s.len + 1
  | .r _ s => s.len + 1
  | .b _ _ s _ => s.len + 1

def wpTree (P : Program) (ops : Array Oper) (Q : Exit → Act → World → Prop) (S : World → Prop) (tl : List Oper) : Sc → Act → World → Prop
  | .nil, a, w => wpList P ops Q tl a w
  | .t i s, a, w => ∃ o v, ops[i]? = some o ∧ YieldsIf P ops S o v a ∧ wpTree P ops Q S tl s (a.put o.dst v) w
  | .r i s, a, w => ∃ o, ops[i]? = some o ∧ o.guard = none ∧ o.wp P a w (fun a' w' => S w' ∧ wpTree P ops Q S tl s a' w') Q
  | .b i j s u, a, w => (∃ o, ops[i]? = some o ∧ o.guard = none ∧ o.wp P a w (fun a' w' => S w' ∧ wpTree P ops Q S tl s a' w') Q) ∧
      (∃ o, ops[j]? = some o ∧ o.guard = none ∧ o.wp P a w (fun a' w' => S w' ∧ wpTree P ops Q S tl u a' w') Q)

def treeOk (md : Region.Mode) (ops : Array Oper) (n g : Nat) : Sc → Array Bool → Bool
  | .nil, listed => Region.seqB md ops g n listed
  | .t i s, listed => decide (i < n) && (Region.ready md ops listed).contains i && Region.free md ops listed i && treeOk md ops n g s (listed.setIfInBounds i true)
  | .r i s, listed => decide (i < n) && decide (Region.ready md ops listed = [i]) && treeOk md ops n g s (listed.setIfInBounds i true)
  | .b i j s u, listed => decide (i < n) && decide (j < n) && decide (s.len = u.len) && decide (Region.ready md ops listed = [i, j]) && treeOk md ops n g s (listed.setIfInBounds i true) && treeOk md ops n g u (listed.setIfInBounds j true)

theorem wpAnyT_of_tree {n g : Nat} {tl : List Oper} (hsel : Region.noSelect ops = true) (hs : Region.sinkB md ops n = true) (hc : Region.chainB md ops n = true) (hn : n < ops.size)
    (hQ : ∀ c (d : Option Tmp) v a w, Q (.panic c) (Act.put a d v) w → Q (.panic c) a w) :
    ∀ (s : Sc) (listed : Array Bool) (a : Act) (w : World), HeadInv md ops n listed → treeOk md ops n g s listed = true → S w → wpTree P ops Q S tl s a w → wpAnyT P md ops Q S n g tl s.len listed a w
  | .nil, listed, a, w, _, hB, _, h => ⟨hB, h⟩
  | .t i r, listed, a, w, inv, hB, hS, h => by
    obtain ⟨o, v, ho, hy, hK⟩ := h
    simp only [treeOk, Bool.and_eq_true, decide_eq_true_eq] at hB
    obtain ⟨⟨⟨hin, hr⟩, hf⟩, hB'⟩ := hB
    have hr' : i ∈ Region.ready md ops listed := by simpa using hr
    exact wpAnyT_first ho (Region.noSelect_spec hsel) (fun c a w => hQ c o.dst v a w) hs hc hn hin r.len listed a w inv (Region.free_spec ho hf) hr' hy hS
      (wpAnyT_of_tree hsel hs hc hn hQ r _ _ w (inv.set hr' hin) hB' hS hK)
  | .r i r, listed, a, w, inv, hB, hS, h => by
    obtain ⟨o, ho, hg, hK⟩ := h
    simp only [treeOk, Bool.and_eq_true, decide_eq_true_eq] at hB
    obtain ⟨⟨hin, hr⟩, hB'⟩ := hB
    have hr' : i ∈ Region.ready md ops listed := by rw [hr]; simp
    refine ⟨by rw [hr]; simp, fun j hj => ?_⟩
    rw [hr] at hj
    have hj' : j = i := by simpa using hj
    subst hj'
    refine ⟨hin, ?_⟩
    unfold wpOp
    simp only [ho]
    rw [if_pos (by simp [Region.wanted, hg])]
    exact .inl (Oper.wp_mono (fun a' w' h' => ⟨h'.1, wpAnyT_of_tree hsel hs hc hn hQ r _ a' w' (inv.set hr' hin) hB' h'.1 h'.2⟩) hK)
  | .b i j r u, listed, a, w, inv, hB, hS, h => by
    obtain ⟨⟨o, ho, hg, hK⟩, ⟨o2, ho2, hg2, hK2⟩⟩ := h
    simp only [treeOk, Bool.and_eq_true, decide_eq_true_eq] at hB
    obtain ⟨⟨⟨⟨⟨hin, hjn⟩, hlen⟩, hr⟩, hB1⟩, hB2⟩ := hB
    have hri : i ∈ Region.ready md ops listed := by rw [hr]; simp
    have hrj : j ∈ Region.ready md ops listed := by rw [hr]; simp
    refine ⟨by rw [hr]; simp, fun k hk => ?_⟩
    rw [hr] at hk
    have hk' : k = i ∨ k = j := by simpa using hk
    rcases hk' with e | e
    · subst e
      refine ⟨hin, ?_⟩
      unfold wpOp
      simp only [ho]
      rw [if_pos (by simp [Region.wanted, hg])]
      exact .inl (Oper.wp_mono (fun a' w' h' => ⟨h'.1, wpAnyT_of_tree hsel hs hc hn hQ r _ a' w' (inv.set hri hin) hB1 h'.1 h'.2⟩) hK)
    · subst e
      refine ⟨hjn, ?_⟩
      unfold wpOp
      simp only [ho2]
      rw [if_pos (by simp [Region.wanted, hg2])]
      rw [hlen]
      exact .inl (Oper.wp_mono (fun a' w' h' => ⟨h'.1, wpAnyT_of_tree hsel hs hc hn hQ u _ a' w' (inv.set hrj hjn) hB2 h'.1 h'.2⟩) hK2)

def tailOkT (ops : Array Oper) (n : Nat) (s : Sc) : Bool :=
  Region.noSelect ops && decide (n < ops.size) && decide (s.len = n) && Region.sinkB .any ops n && Region.chainB .any ops n && treeOk .any ops n (ops.size - n) s (Array.replicate ops.size false)

/-- THE BEGINNING -/
theorem wp_region_tree {id : Nat} {a : Act} {w : World} {l : List Oper} (S : World → Prop) (n : Nat) (s : Sc) (hm : P.follows .mixedOrders = true) (hB : tailOkT l.toArray n s = true)
    (hS : S w.drew) (hQ : ∀ c (d : Option Tmp) v a w, Q (.panic c) (Act.put a d v) w → Q (.panic c) a w)
    (h : wpTree P l.toArray Q S (l.drop n) s a w.drew) : (Code.region id l.toArray true).wp P Q a w := by
  simp only [tailOkT, Bool.and_eq_true, decide_eq_true_eq] at hB
  obtain ⟨⟨⟨⟨⟨hsel, hn⟩, hlen⟩, hs⟩, hc⟩, hseq⟩ := hB
  have inv0 : HeadInv .any l.toArray n (Array.replicate l.toArray.size false) :=
    ⟨by simp, fun j oj _ hl => (by rw [getD_replicate_false] at hl; cases hl), fun t _ ht => getD_in (by simpa using ht) (getD_replicate_false _ _)⟩
  have hdl : (l.drop n).length = l.toArray.size - n := by simp
  rw [← hdl] at hseq
  have H := wpAnyT_of_tree (md := .any) (g := (l.drop n).length) (tl := l.drop n) hsel hs hc hn hQ s _ a w.drew inv0 hseq hS h
  refine wp_region_any hm ?_
  have := wpAny_of_T (md := .any) (n := n) (tl := l.drop n) (fun j => by simp [List.getElem?_drop]) _ _ _ _ H
  rw [hlen, hdl, show n + (l.toArray.size - n) = l.toArray.size by omega] at this
  exact this

/- the steps -/
variable {l tl : List Oper} {i j : Nat} {s u : Sc} {a : Act} {w : World} {o o2 : Oper}
theorem tree_end (h : wpList P ops Q tl a w) : wpTree P ops Q S tl .nil a w := h
theorem tree_pure (ho : l[i]? = some o) (hg : o.guard = none) {v : Value} (hv : ∀ wx, S wx → (execOp a.eval o).run P wx = .ok (.value v) wx) (h : wpTree P l.toArray Q S tl s (a.put o.dst v) w) : wpTree P l.toArray Q S tl (.t i s) a w :=
  ⟨o, v, by simpa using ho, .inl ⟨by simp [Region.wanted, hg], hv⟩, h⟩
theorem tree_run (ho : l[i]? = some o) (hg : o.guard = none) (h : o.wp P a w (fun a' w' => S w' ∧ wpTree P l.toArray Q S tl s a' w') Q) : wpTree P l.toArray Q S tl (.r i s) a w :=
  ⟨o, by simpa using ho, hg, h⟩
theorem tree_arr (ho : l[i]? = some o) (hg : o.guard = none) {ty : TypeId} {x : Operand} (hop : o.op = .load ty x) {g p : Nat} (hx : a.eval x = .pointer (some ⟨g, p, none⟩)) (cs : List Value) (hS : ∀ wx, S wx → wx.rangeAt g p cs)
    {d : TypeDesc} (hu : P.underlying ty = some d) (hd : d.isRow = true) (hi : (P.info? ty).map (·.size) = some cs.length) (h : wpTree P l.toArray Q S tl s (a.put o.dst (.agg cs.toArray)) w) : wpTree P l.toArray Q S tl (.t i s) a w :=
  ⟨o, _, by simpa using ho, yieldsIf_load_mid (by simp [Region.wanted, hg]) ty x hop g p hx cs d hS hu hd hi, h⟩
/-- either first; what follows the region is shown once (F: found at the first way's end) -/
theorem tree_both {C F : Nat → World → Prop} (ho : l[i]? = some o) (hg : o.guard = none) (ho2 : l[j]? = some o2) (hg2 : o2.guard = none)
    (h1 : (∀ g w', C g w' → F g w') → o.wp P a w (fun a' w' => S w' ∧ wpTree P l.toArray Q S tl s a' w') Q)
    (h2 : (∀ g w', C g w' → F g w') → o2.wp P a w (fun a' w' => S w' ∧ wpTree P l.toArray Q S tl u a' w') Q)
    (h : ∀ g w', C g w' → F g w') : wpTree P l.toArray Q S tl (.b i j s u) a w :=
  ⟨⟨o, by simpa using ho, hg, h1 h⟩, ⟨o2, by simpa using ho2, hg2, h2 h⟩⟩
end
section
variable {P : Program} {w w0 : World} {o : Oper} {a : Act} {K : Act → World → Prop} {Q : Exit → Act → World → Prop} {S : Nat → Prop} {bl : List (Nat × List Value × TypeId)}
theorem wp_allocS (hst : St S w0 w bl) {e : TypeId} (ho : o.op = .alloc e) {z : Value} (hi : (P.info? e).map (·.zero) = some (some z)) (L : List Value) (hL : z.cells.toList = L)
    (h : ∀ g w', St S w0 w' (bl ++ [(g, L, e)]) → K (a.put o.dst (.pointer (some ⟨g, 0, none⟩))) w') : o.wp P a w K Q := by
  obtain ⟨i, hi1, hz⟩ : ∃ i, P.info? e = some i ∧ i.zero = some z := by simpa using hi
  have hr : (Instr.alloc e true (.tuple #[])).run P w = .ok (.pointer (some ⟨w.heap.size, 0, none⟩)) (w.alloc (.cells z.cells e)) := by
    simp [Instr.alloc, zeroValue, typeInfo, hi1, hz, newVar, newRow]
  unfold Oper.wp execOp
  simp only [ho, Sem.run_bind, Sem.run_pure, Result.andThen_ok, hr]
  have hg := Has.new w z.cells e
  rw [hL] at hg
  exact h _ _ (hst.new ((Fr.refl _ w).alloc _) hg (Nat.le_refl _))
theorem wp_storeS (hst : St S w0 w bl) (i : Nat) {g : Nat} {L : List Value} {T : TypeId} (hb : bl[i]? = some (g, L, T)) {ty : TypeId} {x y : Operand} (ho : o.op = .store ty x y) (hx : a.eval x = .pointer (some ⟨g, 0, none⟩)) {cs : List Value} (hy : a.eval y = .agg cs.toArray)
    (hn : cs.length = L.length) (hi : (P.info? ty).map (·.size) = some cs.length) (h1 : ∀ v ∈ cs, v.oneCell' = true)
    (h : ∀ w', St S w0 w' (bl.set i (g, cs, T)) → K (a.put o.dst undef) w') : o.wp P a w K Q := by
  obtain ⟨k1, k2, _⟩ := Has.setCells cs 0 L w (hst.at i hb) (by omega)
  rw [splice_whole _ _ hn] at k1
  exact wp_store_mid ty x y ho g 0 cs.toArray hx hy (by simpa using (hst.at i hb).there 0 cs.length (by omega)) (by simpa using hi) (all_oneCell_toArray h1) (by simpa using h _ (hst.put i hb k2 k1))
end
end Go.Mv
