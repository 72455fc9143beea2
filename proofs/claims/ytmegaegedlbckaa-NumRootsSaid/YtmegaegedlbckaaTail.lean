/- A region that draws its order, under a condition S on the world that holds till the last operations begin: the head (reads, calls) in an order of the prover's choice, behind it the tail (a store, as a rule) in the text's order. -/
import Derived.OrdersHeld
import Derived.StillTail
import Derived.Deep.MidRow
import Derived.Deep.RegionHeld3
import Derived.Test.YtmegaegedlbckaaSt
namespace Go.Mv
open Go.RowKit
section
variable {P : Program} {ops : Array Oper} {md : Region.Mode} {Q : Exit → Act → World → Prop} {S : World → Prop}

def wpAnyT (P : Program) (md : Region.Mode) (ops : Array Oper) (Q : Exit → Act → World → Prop) (S : World → Prop) (n g : Nat) (tl : List Oper) : Nat → Array Bool → Act → World → Prop
  | 0, listed, a, w => Region.seqB md ops g n listed = true ∧ wpList P ops Q tl a w
  | f + 1, listed, a, w =>
    Region.ready md ops listed ≠ [] ∧ ∀ i ∈ Region.ready md ops listed, i < n ∧ wpOp P ops Q i (fun a' w' => S w' ∧ wpAnyT P md ops Q S n g tl f (listed.setIfInBounds i true) a' w') a w

theorem wpAny_of_T {n : Nat} {tl : List Oper} (hl : ∀ j, tl[j]? = ops[n + j]?) : ∀ (f : Nat) (listed : Array Bool) (a : Act) (w : World), wpAnyT P md ops Q S n tl.length tl f listed a w → wpAny P md ops Q (f + tl.length) listed a w
  | 0, listed, a, w, h => by rw [Nat.zero_add]; exact wpAny_of_seq tl n listed a w hl h.1 h.2
  | f + 1, listed, a, w, h => by
    rw [show f + 1 + tl.length = (f + tl.length) + 1 by omega]
    exact ⟨fun h0 => absurd h0 h.1, fun i hi => wpOp_mono (fun a' w' h' => wpAny_of_T hl f _ a' w' h'.2) (h.2 i hi).2⟩

theorem wpAnyT_first {n g i : Nat} {oi : Oper} {v : Value} {tl : List Oper} (hi : ops[i]? = some oi) (hsel : ∀ (j : Nat) (o : Oper) cs b, ops[j]? = some o → o.op ≠ .select cs b)
    (hQ : ∀ c a w, Q (.panic c) (a.put oi.dst v) w → Q (.panic c) a w)
    (hs : Region.sinkB md ops n = true) (hc : Region.chainB md ops n = true) (hn : n < ops.size) (hin : i < n) :
    ∀ (f : Nat) (listed : Array Bool) (a : Act) (w : World), HeadInv md ops n listed →
      (∀ j oj, ops[j]? = some oj → j ≠ i → listed.getD j true = false → (∀ e ∈ oj.after, Region.binds md e = true → e.on ≠ i) → oi.apart ops oj = true) →
      i ∈ Region.ready md ops listed → YieldsIf P ops S oi v a → S w →
      wpAnyT P md ops Q S n g tl f (listed.setIfInBounds i true) (a.put oi.dst v) w → wpAnyT P md ops Q S n g tl (f + 1) listed a w := by
  intro f
  induction f with
  | zero =>
    intro listed a w inv _ hr hy hS H
    have hun := (mem_ready.1 hr).1
    refine ⟨fun h => (by rw [h] at hr; cases hr), fun j hj => ?_⟩
    have hjn : j < n := by
      rcases Nat.lt_or_ge j n with h | h
      · exact h
      · exact absurd hj (tail_waits hs hc hn inv _ i rfl hin hun j h)
    refine ⟨hjn, ?_⟩
    by_cases hji : j = i
    · subst hji; exact hy.wpOp hi hS ⟨hS, H⟩
    · have := seqB_ready H.1 j (ready_mono hj hji)
      omega
  | succ f ih =>
    intro listed a w inv hfree hr hy hS H
    have hun := (mem_ready.1 hr).1
    refine ⟨fun h => (by rw [h] at hr; cases hr), fun j hj => ?_⟩
    have hjn : j < n := by
      rcases Nat.lt_or_ge j n with h | h
      · exact h
      · exact absurd hj (tail_waits hs hc hn inv _ i rfl hin hun j h)
    refine ⟨hjn, ?_⟩
    by_cases hji : j = i
    · subst hji; exact hy.wpOp hi hS ⟨hS, H⟩
    · have h1 := (H.2 j (ready_mono hj hji)).2
      obtain ⟨hjun, oj, hoj, hall⟩ := mem_ready.1 hj
      have hnot : ∀ e ∈ oj.after, Region.binds md e = true → e.on ≠ i := fun e he hb heq => by
        have h1 := hall e he hb
        rw [heq, getD_both hun] at h1
        cases h1
      have h2 := wpOp_putIf hoj (hfree j oj hoj hji hjun hnot) (fun cs b => hsel i oi cs b hi) (fun cs b => hsel j oj cs b hoj) hQ hy h1
      have hfree' : ∀ k ok, ops[k]? = some ok → k ≠ i → (listed.setIfInBounds j true).getD k true = false →
          (∀ e ∈ ok.after, Region.binds md e = true → e.on ≠ i) → oi.apart ops ok = true := fun k ok hk hki hun hno => by
        refine hfree k ok hk hki ?_ hno
        by_cases hjk : j = k
        · subst hjk; exact hjun
        · rw [getD_set_ne true hjk] at hun; exact hun
      refine wpOp_mono (fun a' w' h3 => ⟨h3.2.1, ih (listed.setIfInBounds j true) a' w' (inv.set hj hjn) hfree' (ready_mono hr (Ne.symm hji)) h3.1 h3.2.1 ?_⟩) h2
      rw [Array.setIfInBounds_comm _ _ hji]
      exact h3.2.2

/-- the head, in the order s (true: it only yields a value; false: it is carried out), then the tail -/
def wpSeq (P : Program) (ops : Array Oper) (Q : Exit → Act → World → Prop) (S : World → Prop) (tl : List Oper) : List (Nat × Bool) → Act → World → Prop
  | [], a, w => wpList P ops Q tl a w
  | (i, true) :: r, a, w => ∃ o v, ops[i]? = some o ∧ YieldsIf P ops S o v a ∧ wpSeq P ops Q S tl r (a.put o.dst v) w
  | (i, false) :: r, a, w => ∃ o, ops[i]? = some o ∧ o.guard = none ∧ o.wp P a w (fun a' w' => S w' ∧ wpSeq P ops Q S tl r a' w') Q

/-- is the order s one that serves? -/
def seqOk (md : Region.Mode) (ops : Array Oper) (n g : Nat) : List (Nat × Bool) → Array Bool → Bool
  | [], listed => Region.seqB md ops g n listed
  | (i, true) :: r, listed => decide (i < n) && (Region.ready md ops listed).contains i && Region.free md ops listed i && seqOk md ops n g r (listed.setIfInBounds i true)
  | (i, false) :: r, listed => decide (i < n) && decide (Region.ready md ops listed = [i]) && seqOk md ops n g r (listed.setIfInBounds i true)

theorem wpAnyT_of_seq {n g : Nat} {tl : List Oper} (hsel : Region.noSelect ops = true) (hs : Region.sinkB md ops n = true) (hc : Region.chainB md ops n = true) (hn : n < ops.size)
    (hQ : ∀ c (d : Option Tmp) v a w, Q (.panic c) (Act.put a d v) w → Q (.panic c) a w) :
    ∀ (s : List (Nat × Bool)) (listed : Array Bool) (a : Act) (w : World), HeadInv md ops n listed → seqOk md ops n g s listed = true → S w → wpSeq P ops Q S tl s a w → wpAnyT P md ops Q S n g tl s.length listed a w
  | [], listed, a, w, _, hB, _, h => ⟨hB, h⟩
  | (i, true) :: r, listed, a, w, inv, hB, hS, h => by
    obtain ⟨o, v, ho, hy, hK⟩ := h
    simp only [seqOk, Bool.and_eq_true, decide_eq_true_eq] at hB
    obtain ⟨⟨⟨hin, hr⟩, hf⟩, hB'⟩ := hB
    have hr' : i ∈ Region.ready md ops listed := by simpa using hr
    exact wpAnyT_first ho (Region.noSelect_spec hsel) (fun c a w => hQ c o.dst v a w) hs hc hn hin r.length listed a w inv (Region.free_spec ho hf) hr' hy hS
      (wpAnyT_of_seq hsel hs hc hn hQ r _ _ w (inv.set hr' hin) hB' hS hK)
  | (i, false) :: r, listed, a, w, inv, hB, hS, h => by
    obtain ⟨o, ho, hg, hK⟩ := h
    simp only [seqOk, Bool.and_eq_true, decide_eq_true_eq] at hB
    obtain ⟨⟨hin, hr⟩, hB'⟩ := hB
    have hr' : i ∈ Region.ready md ops listed := by rw [hr]; simp
    refine ⟨by rw [hr]; simp, fun j hj => ?_⟩
    rw [hr] at hj
    have hj' : j = i := by simpa using hj
    subst hj'
    refine ⟨hin, ?_⟩
    unfold wpOp
    simp only [ho]
    rw [if_pos (by simp [Region.wanted, hg])]
    exact .inl (Oper.wp_mono (fun a' w' h' => ⟨h'.1, wpAnyT_of_seq hsel hs hc hn hQ r _ a' w' (inv.set hr' hin) hB' h'.1 h'.2⟩) hK)

def tailOk (ops : Array Oper) (n : Nat) (s : List (Nat × Bool)) : Bool :=
  Region.noSelect ops && decide (n < ops.size) && decide (s.length = n) && Region.sinkB .any ops n && Region.chainB .any ops n && seqOk .any ops n (ops.size - n) s (Array.replicate ops.size false)

/-- THE BEGINNING -/
theorem wp_region_seq {id : Nat} {a : Act} {w : World} {l : List Oper} (S : World → Prop) (n : Nat) (s : List (Nat × Bool)) (hm : P.follows .mixedOrders = true) (hB : tailOk l.toArray n s = true)
    (hS : S w.drew) (hQ : ∀ c (d : Option Tmp) v a w, Q (.panic c) (Act.put a d v) w → Q (.panic c) a w)
    (h : wpSeq P l.toArray Q S (l.drop n) s a w.drew) : (Code.region id l.toArray true).wp P Q a w := by
  simp only [tailOk, Bool.and_eq_true, decide_eq_true_eq] at hB
  obtain ⟨⟨⟨⟨⟨hsel, hn⟩, hlen⟩, hs⟩, hc⟩, hseq⟩ := hB
  have inv0 : HeadInv .any l.toArray n (Array.replicate l.toArray.size false) :=
    ⟨by simp, fun j oj _ hl => (by rw [getD_replicate_false] at hl; cases hl), fun t _ ht => getD_in (by simpa using ht) (getD_replicate_false _ _)⟩
  have hdl : (l.drop n).length = l.toArray.size - n := by simp
  rw [← hdl] at hseq
  have H := wpAnyT_of_seq (md := .any) (g := (l.drop n).length) (tl := l.drop n) hsel hs hc hn hQ s _ a w.drew inv0 hseq hS h
  refine wp_region_any hm ?_
  have := wpAny_of_T (md := .any) (n := n) (tl := l.drop n) (fun j => by simp [List.getElem?_drop]) _ _ _ _ H
  rw [hlen, hdl, show n + (l.toArray.size - n) = l.toArray.size by omega] at this
  exact this

/- the steps -/
variable {l tl : List Oper} {i : Nat} {r : List (Nat × Bool)} {a : Act} {w : World} {o : Oper}
theorem seq_end (h : wpList P ops Q tl a w) : wpSeq P ops Q S tl [] a w := h
theorem seq_pure (ho : l[i]? = some o) (hg : o.guard = none) {v : Value} (hv : ∀ wx, S wx → (execOp a.eval o).run P wx = .ok (.value v) wx) (h : wpSeq P l.toArray Q S tl r (a.put o.dst v) w) : wpSeq P l.toArray Q S tl ((i, true) :: r) a w :=
  ⟨o, v, by simpa using ho, .inl ⟨by simp [Region.wanted, hg], hv⟩, h⟩
theorem seq_run (ho : l[i]? = some o) (hg : o.guard = none) (h : o.wp P a w (fun a' w' => S w' ∧ wpSeq P l.toArray Q S tl r a' w') Q) : wpSeq P l.toArray Q S tl ((i, false) :: r) a w :=
  ⟨o, by simpa using ho, hg, h⟩
/-- a whole array is read -/
theorem seq_arr (ho : l[i]? = some o) (hg : o.guard = none) {ty : TypeId} {x : Operand} (hop : o.op = .load ty x) {g p : Nat} (hx : a.eval x = .pointer (some ⟨g, p, none⟩)) (cs : List Value) (hS : ∀ wx, S wx → wx.rangeAt g p cs)
    {d : TypeDesc} (hu : P.underlying ty = some d) (hd : d.isRow = true) (hi : (P.info? ty).map (·.size) = some cs.length) (h : wpSeq P l.toArray Q S tl r (a.put o.dst (.agg cs.toArray)) w) : wpSeq P l.toArray Q S tl ((i, true) :: r) a w :=
  ⟨o, _, by simpa using ho, yieldsIf_load_mid (by simp [Region.wanted, hg]) ty x hop g p hx cs d hS hu hd hi, h⟩
end

theorem St.rangeL {S : Nat → Prop} {w0 w : World} {bl : List (Nat × List Value × TypeId)} (h : St S w0 w bl) (i : Nat) {g : Nat} {L : List Value} {T : TypeId} (hb : bl[i]? = some (g, L, T)) (o : Nat) (cs : List Value) (hcs : (L.drop o).take cs.length = cs) : w.rangeAt g o cs := (h.at i hb).range o cs hcs
end Go.Mv
