/- A region that draws its order: the head under a condition S, one operation that may break S, and behind it operations that only yield values, under another condition. -/
import Derived.Test.YtmegaegedlbckaaTail
namespace Go.Mv
open Go.RowKit
section
variable {P : Program} {ops : Array Oper} {md : Region.Mode} {Q : Exit → Act → World → Prop} {S S2 : World → Prop}

/-- each operation behind n waits for one that stands behind it no earlier than n -/
def behindB (md : Region.Mode) (ops : Array Oper) (n : Nat) : Bool :=
  (List.range ops.size).all fun t => decide (t ≤ n) || (List.range t).any fun j => decide (n ≤ j) && Region.waitsFor md ops t j

theorem head_first {n : Nat} {listed : Array Bool} (hs : Region.sinkB md ops n = true) (hb : behindB md ops n = true) (inv : HeadInv md ops n listed) {i : Nat} (hi : i < n) (hun : listed.getD i true = false) :
    ∀ t, n ≤ t → t ∉ Region.ready md ops listed := by
  have key : ∀ (d i : Nat), n - i = d → i < n → listed.getD i true = false → n ∉ Region.ready md ops listed := by
    intro d
    induction d using Nat.strongRecOn with
    | _ d ih =>
      intro i hd hi hun hr
      obtain ⟨-, on, hon, hall⟩ := mem_ready.1 hr
      obtain ⟨j, hj, hj2⟩ := List.any_eq_true.1 (List.all_eq_true.1 hs i (List.mem_range.2 hi))
      simp only [Bool.and_eq_true, decide_eq_true_eq] at hj2
      obtain ⟨oj, hoj, e, he, hbi, heon⟩ := Region.waitsFor_spec hj2.2
      have hjn := List.mem_range.1 hj
      rcases Nat.lt_or_ge j n with h | h
      · cases hl : listed.getD j false with
        | true =>
          have h2 := inv.closed j oj hoj hl e he hbi
          rw [heon, getD_both hun] at h2
          cases h2
        | false =>
          have hjs : j < listed.size := by
            have := (Array.getElem?_eq_some_iff.1 hoj).1
            rw [inv.size]; exact this
          exact ih (n - j) (by omega) j rfl h (getD_in hjs hl) hr
      · have : j = n := by omega
        subst this
        have : oj = on := Option.some.inj (hoj.symm.trans hon)
        subst this
        have h2 := hall e he hbi
        rw [heon, getD_both hun] at h2
        cases h2
  intro t ht hr
  rcases Nat.eq_or_lt_of_le ht with rfl | h
  · exact key _ i rfl hi hun hr
  · obtain ⟨-, ot, hot, hall⟩ := mem_ready.1 hr
    have htl := (Array.getElem?_eq_some_iff.1 hot).1
    have h1 := List.all_eq_true.1 hb t (List.mem_range.2 htl)
    simp only [Bool.or_eq_true, decide_eq_true_eq] at h1
    rcases h1 with h1 | h1
    · omega
    · obtain ⟨j, hj, hj2⟩ := List.any_eq_true.1 h1
      simp only [Bool.and_eq_true, decide_eq_true_eq] at hj2
      obtain ⟨o', ho', e, he, hbi, heon⟩ := Region.waitsFor_spec hj2.2
      have : o' = ot := Option.some.inj (ho'.symm.trans hot)
      subst this
      have h2 := hall e he hbi
      have hjt := List.mem_range.1 hj
      rw [heon, getD_both (inv.tail j hj2.1 (by omega))] at h2
      cases h2

/-- behind the head: B -/
def wpAnyU (P : Program) (md : Region.Mode) (ops : Array Oper) (Q : Exit → Act → World → Prop) (S : World → Prop) (n : Nat) (B : Array Bool → Act → World → Prop) : Nat → Array Bool → Act → World → Prop
  | 0, listed, a, w => Region.ready md ops listed = [n] ∧ B listed a w
  | f + 1, listed, a, w =>
    Region.ready md ops listed ≠ [] ∧ ∀ i ∈ Region.ready md ops listed, i < n ∧ wpOp P ops Q i (fun a' w' => S w' ∧ wpAnyU P md ops Q S n B f (listed.setIfInBounds i true) a' w') a w

theorem wpAny_of_U {n g : Nat} {B : Array Bool → Act → World → Prop} (hB : ∀ listed a w, Region.ready md ops listed = [n] → B listed a w → wpAny P md ops Q g listed a w) :
    ∀ (f : Nat) (listed : Array Bool) (a : Act) (w : World), wpAnyU P md ops Q S n B f listed a w → wpAny P md ops Q (f + g) listed a w
  | 0, listed, a, w, h => by rw [Nat.zero_add]; exact hB _ _ _ h.1 h.2
  | f + 1, listed, a, w, h => by
    rw [show f + 1 + g = (f + g) + 1 by omega]
    exact ⟨fun h0 => absurd h0 h.1, fun i hi => wpOp_mono (fun a' w' h' => wpAny_of_U hB f _ a' w' h'.2) (h.2 i hi).2⟩

theorem wpAnyU_first {n i : Nat} {oi : Oper} {v : Value} {B : Array Bool → Act → World → Prop} (hi : ops[i]? = some oi) (hsel : ∀ (j : Nat) (o : Oper) cs b, ops[j]? = some o → o.op ≠ .select cs b)
    (hQ : ∀ c a w, Q (.panic c) (a.put oi.dst v) w → Q (.panic c) a w) (hs : Region.sinkB md ops n = true) (hb : behindB md ops n = true) (hin : i < n) :
    ∀ (f : Nat) (listed : Array Bool) (a : Act) (w : World), HeadInv md ops n listed →
      (∀ j oj, ops[j]? = some oj → j ≠ i → listed.getD j true = false → (∀ e ∈ oj.after, Region.binds md e = true → e.on ≠ i) → oi.apart ops oj = true) →
      i ∈ Region.ready md ops listed → YieldsIf P ops S oi v a → S w →
      wpAnyU P md ops Q S n B f (listed.setIfInBounds i true) (a.put oi.dst v) w → wpAnyU P md ops Q S n B (f + 1) listed a w := by
  intro f
  induction f with
  | zero =>
    intro listed a w inv _ hr hy hS H
    have hun := (mem_ready.1 hr).1
    refine ⟨fun h => (by rw [h] at hr; cases hr), fun j hj => ?_⟩
    have hjn : j < n := Nat.lt_of_not_le fun h => head_first hs hb inv hin hun j h hj
    refine ⟨hjn, ?_⟩
    by_cases hji : j = i
    · subst hji; exact hy.wpOp hi hS ⟨hS, H⟩
    · have h2 := ready_mono hj hji
      rw [H.1] at h2
      simp only [List.mem_singleton] at h2
      omega
  | succ f ih =>
    intro listed a w inv hfree hr hy hS H
    have hun := (mem_ready.1 hr).1
    refine ⟨fun h => (by rw [h] at hr; cases hr), fun j hj => ?_⟩
    have hjn : j < n := Nat.lt_of_not_le fun h => head_first hs hb inv hin hun j h hj
    refine ⟨hjn, ?_⟩
    by_cases hji : j = i
    · subst hji; exact hy.wpOp hi hS ⟨hS, H⟩
    · have h1 := (H.2 j (ready_mono hj hji)).2
      obtain ⟨hjun, oj, hoj, hall⟩ := mem_ready.1 hj
      have hnot : ∀ e ∈ oj.after, Region.binds md e = true → e.on ≠ i := fun e he hb heq => by
        have h1 := hall e he hb
        rw [heq, getD_both hun] at h1
        cases h1
      have h2 := wpOp_putIf hoj (hfree j oj hoj hji hjun hnot) (fun cs b => hsel i oi cs b hi) (fun cs b => hsel j oj cs b hoj) hQ hy h1
      have hfree' : ∀ k ok, ops[k]? = some ok → k ≠ i → (listed.setIfInBounds j true).getD k true = false →
          (∀ e ∈ ok.after, Region.binds md e = true → e.on ≠ i) → oi.apart ops ok = true := fun k ok hk hki hun hno => by
        refine hfree k ok hk hki ?_ hno
        by_cases hjk : j = k
        · subst hjk; exact hjun
        · rw [getD_set_ne true hjk] at hun; exact hun
      refine wpOp_mono (fun a' w' h3 => ⟨h3.2.1, ih (listed.setIfInBounds j true) a' w' (inv.set hj hjn) hfree' (ready_mono hr (Ne.symm hji)) h3.1 h3.2.1 ?_⟩) h2
      rw [Array.setIfInBounds_comm _ _ hji]
      exact h3.2.2

/-- the head in the order s, then B -/
def wpSeqU (P : Program) (ops : Array Oper) (Q : Exit → Act → World → Prop) (S : World → Prop) (B : Act → World → Prop) : List (Nat × Bool) → Act → World → Prop
  | [], a, w => B a w
  | (i, true) :: r, a, w => ∃ o v, ops[i]? = some o ∧ YieldsIf P ops S o v a ∧ wpSeqU P ops Q S B r (a.put o.dst v) w
  | (i, false) :: r, a, w => ∃ o, ops[i]? = some o ∧ o.guard = none ∧ o.wp P a w (fun a' w' => S w' ∧ wpSeqU P ops Q S B r a' w') Q
/-- what follows the one operation: values only -/
def wpSeqB (P : Program) (ops : Array Oper) (Q : Exit → Act → World → Prop) (S : World → Prop) : List Nat → Act → World → Prop
  | [], a, w => Q .normal a w
  | i :: r, a, w => ∃ o v, ops[i]? = some o ∧ YieldsIf P ops S o v a ∧ wpSeqB P ops Q S r (a.put o.dst v) w
def seqOkB (md : Region.Mode) (ops : Array Oper) : List Nat → Array Bool → Bool
  | [], listed => (Region.ready md ops listed).isEmpty
  | i :: r, listed => (Region.ready md ops listed).contains i && Region.free md ops listed i && seqOkB md ops r (listed.setIfInBounds i true)
def seqOkU (md : Region.Mode) (ops : Array Oper) (n : Nat) (s2 : List Nat) : List (Nat × Bool) → Array Bool → Bool
  | [], listed => decide (Region.ready md ops listed = [n]) && seqOkB md ops s2 (listed.setIfInBounds n true)
  | (i, true) :: r, listed => decide (i < n) && (Region.ready md ops listed).contains i && Region.free md ops listed i && seqOkU md ops n s2 r (listed.setIfInBounds i true)
  | (i, false) :: r, listed => decide (i < n) && decide (Region.ready md ops listed = [i]) && seqOkU md ops n s2 r (listed.setIfInBounds i true)

theorem wpAnyH_of_seqB (hsel : Region.noSelect ops = true) (hQ : ∀ c (d : Option Tmp) v a w, Q (.panic c) (Act.put a d v) w → Q (.panic c) a w) :
    ∀ (r : List Nat) (listed : Array Bool) (a : Act) (w : World), seqOkB md ops r listed = true → S w → wpSeqB P ops Q S r a w → wpAnyH P md ops Q S r.length listed a w
  | [], listed, a, w, hB, _, h => wpAnyH_done (by simpa [seqOkB] using hB) h 0
  | i :: r, listed, a, w, hB, hS, h => by
    obtain ⟨o, v, ho, hy, hK⟩ := h
    simp only [seqOkB, Bool.and_eq_true] at hB
    obtain ⟨⟨hr, hf⟩, hB'⟩ := hB
    exact wpAnyH_take ho hsel hf hr (fun c a w => hQ c o.dst v a w) hy hS (wpAnyH_of_seqB hsel hQ r _ _ w hB' hS hK)

theorem wpAnyU_of_seq {n : Nat} {s2 : List Nat} {B : Act → World → Prop} (hsel : Region.noSelect ops = true) (hs : Region.sinkB md ops n = true) (hb : behindB md ops n = true)
    (hQ : ∀ c (d : Option Tmp) v a w, Q (.panic c) (Act.put a d v) w → Q (.panic c) a w) :
    ∀ (s : List (Nat × Bool)) (listed : Array Bool) (a : Act) (w : World), HeadInv md ops n listed → seqOkU md ops n s2 s listed = true → S w → wpSeqU P ops Q S B s a w →
      wpAnyU P md ops Q S n (fun l a w => seqOkB md ops s2 (l.setIfInBounds n true) = true ∧ B a w) s.length listed a w
  | [], listed, a, w, _, hB, _, h => by
    simp only [seqOkU, Bool.and_eq_true, decide_eq_true_eq] at hB
    exact ⟨hB.1, hB.2, h⟩
  | (i, true) :: r, listed, a, w, inv, hB, hS, h => by
    obtain ⟨o, v, ho, hy, hK⟩ := h
    simp only [seqOkU, Bool.and_eq_true, decide_eq_true_eq] at hB
    obtain ⟨⟨⟨hin, hr⟩, hf⟩, hB'⟩ := hB
    have hr' : i ∈ Region.ready md ops listed := by simpa using hr
    exact wpAnyU_first ho (Region.noSelect_spec hsel) (fun c a w => hQ c o.dst v a w) hs hb hin r.length listed a w inv (Region.free_spec ho hf) hr' hy hS
      (wpAnyU_of_seq hsel hs hb hQ r _ _ w (inv.set hr' hin) hB' hS hK)
  | (i, false) :: r, listed, a, w, inv, hB, hS, h => by
    obtain ⟨o, ho, hg, hK⟩ := h
    simp only [seqOkU, Bool.and_eq_true, decide_eq_true_eq] at hB
    obtain ⟨⟨hin, hr⟩, hB'⟩ := hB
    have hr' : i ∈ Region.ready md ops listed := by rw [hr]; simp
    refine ⟨by rw [hr]; simp, fun j hj => ?_⟩
    rw [hr] at hj
    have hj' : j = i := by simpa using hj
    subst hj'
    refine ⟨hin, ?_⟩
    unfold wpOp
    simp only [ho]
    rw [if_pos (by simp [Region.wanted, hg])]
    exact .inl (Oper.wp_mono (fun a' w' h' => ⟨h'.1, wpAnyU_of_seq hsel hs hb hQ r _ a' w' (inv.set hr' hin) hB' h'.1 h'.2⟩) hK)

def tailOkU (ops : Array Oper) (n : Nat) (s : List (Nat × Bool)) (s2 : List Nat) : Bool :=
  Region.noSelect ops && decide (n < ops.size) && decide (s.length = n) && decide (s2.length = ops.size - n - 1) && Region.sinkB .any ops n && behindB .any ops n && seqOkU .any ops n s2 s (Array.replicate ops.size false)

/-- THE BEGINNING -/
theorem wp_region_seq2 {id : Nat} {a : Act} {w : World} {l : List Oper} (S S2 : World → Prop) (n : Nat) (s : List (Nat × Bool)) (s2 : List Nat) (hm : P.follows .mixedOrders = true) (hB : tailOkU l.toArray n s s2 = true)
    (hS : S w.drew) (hQ : ∀ c (d : Option Tmp) v a w, Q (.panic c) (Act.put a d v) w → Q (.panic c) a w)
    (h : wpSeqU P l.toArray Q S (fun a w => ∃ o, l[n]? = some o ∧ o.guard = none ∧ o.wp P a w (fun a' w' => S2 w' ∧ wpSeqB P l.toArray Q S2 s2 a' w') Q) s a w.drew) : (Code.region id l.toArray true).wp P Q a w := by
  simp only [tailOkU, Bool.and_eq_true, decide_eq_true_eq] at hB
  obtain ⟨⟨⟨⟨⟨⟨hsel, hn⟩, hlen⟩, hlen2⟩, hs⟩, hb⟩, hseq⟩ := hB
  have inv0 : HeadInv .any l.toArray n (Array.replicate l.toArray.size false) :=
    ⟨by simp, fun j oj _ hl => (by rw [getD_replicate_false] at hl; cases hl), fun t _ ht => getD_in (by simpa using ht) (getD_replicate_false _ _)⟩
  have H := wpAnyU_of_seq (md := .any) hsel hs hb hQ s _ a w.drew inv0 hseq hS h
  refine wp_region_any hm ?_
  have := wpAny_of_U (g := s2.length + 1) (fun listed a w hr hBB => by
    obtain ⟨hok, o, ho, hg, hK⟩ := hBB
    refine ⟨fun h0 => (by rw [hr] at h0; cases h0), fun i hi => ?_⟩
    rw [hr] at hi
    have hi' : i = n := by simpa using hi
    subst hi'
    unfold wpOp
    have ho' : l.toArray[i]? = some o := by simpa using ho
    simp only [ho']
    rw [if_pos (by simp [Region.wanted, hg])]
    exact .inl (Oper.wp_mono (fun a' w' h' => wpAny_of_held _ _ _ _ (wpAnyH_of_seqB hsel hQ s2 _ a' w' hok h'.1 h'.2)) hK)) _ _ _ _ H
  rw [hlen, hlen2, show n + (l.toArray.size - n - 1 + 1) = l.toArray.size by omega] at this
  exact this

/- the steps -/
variable {l : List Oper} {i : Nat} {r : List (Nat × Bool)} {r2 : List Nat} {B : Act → World → Prop} {a : Act} {w : World} {o : Oper}
theorem sequ_pure (ho : l[i]? = some o) (hg : o.guard = none) {v : Value} (hv : ∀ wx, S wx → (execOp a.eval o).run P wx = .ok (.value v) wx) (h : wpSeqU P l.toArray Q S B r (a.put o.dst v) w) : wpSeqU P l.toArray Q S B ((i, true) :: r) a w :=
  ⟨o, v, by simpa using ho, .inl ⟨by simp [Region.wanted, hg], hv⟩, h⟩
theorem sequ_run (ho : l[i]? = some o) (hg : o.guard = none) (h : o.wp P a w (fun a' w' => S w' ∧ wpSeqU P l.toArray Q S B r a' w') Q) : wpSeqU P l.toArray Q S B ((i, false) :: r) a w :=
  ⟨o, by simpa using ho, hg, h⟩
theorem sequ_arr (ho : l[i]? = some o) (hg : o.guard = none) {ty : TypeId} {x : Operand} (hop : o.op = .load ty x) {g p : Nat} (hx : a.eval x = .pointer (some ⟨g, p, none⟩)) (cs : List Value) (hS : ∀ wx, S wx → wx.rangeAt g p cs)
    {d : TypeDesc} (hu : P.underlying ty = some d) (hd : d.isRow = true) (hi : (P.info? ty).map (·.size) = some cs.length) (h : wpSeqU P l.toArray Q S B r (a.put o.dst (.agg cs.toArray)) w) : wpSeqU P l.toArray Q S B ((i, true) :: r) a w :=
  ⟨o, _, by simpa using ho, yieldsIf_load_mid (by simp [Region.wanted, hg]) ty x hop g p hx cs d hS hu hd hi, h⟩
theorem sequ_one (ho : l[i]? = some o) (hg : o.guard = none) (h : o.wp P a w (fun a' w' => S2 w' ∧ wpSeqB P l.toArray Q S2 r2 a' w') Q) :
    wpSeqU P l.toArray Q S (fun a w => ∃ o, l[i]? = some o ∧ o.guard = none ∧ o.wp P a w (fun a' w' => S2 w' ∧ wpSeqB P l.toArray Q S2 r2 a' w') Q) [] a w := ⟨o, ho, hg, h⟩
theorem seqb_pure (ho : l[i]? = some o) (hg : o.guard = none) {v : Value} (hv : ∀ wx, S2 wx → (execOp a.eval o).run P wx = .ok (.value v) wx) (h : wpSeqB P l.toArray Q S2 r2 (a.put o.dst v) w) : wpSeqB P l.toArray Q S2 (i :: r2) a w :=
  ⟨o, v, by simpa using ho, .inl ⟨by simp [Region.wanted, hg], hv⟩, h⟩
theorem seqb_end (h : Q .normal a w) : wpSeqB P l.toArray Q S2 [] a w := h
end
end Go.Mv
