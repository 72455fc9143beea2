/- Slice expressions as equations on their runs: to be laid ahead of a walk; A region that draws its order: the head under a condition S, one operation that may break S, and behind it operations that only yield values, under another condition; mont: lineTop, Mul; A modulus of mont's: its numbers, its block; A region that draws its order, as XTail's, where two operations of the head may come in either order (an allocation and a call); (*mont.Modulus).Mul: Montgomery's product; Plain: elements: a number times 2^256 modulo M; A region that draws its order, by a plan: operations that only yield values are taken ahead (w: in whatever world; t: under a condition S on the world, that holds till operation m is carried out), the others are carried out when nothing else can come (r, m), or in either order (b); mont: One, To, From, Add, Sub, Neg, Square, Pow, Inv, Less: at the level of the numbers that the elements stand for; mont: Pow, Inv, fold, Reduce. -/
import Derived.Test.YtemcankmggmgoaaDoorMgKeysTrueProof1
namespace Go.Mv
open Go.RowKit
variable {P : Program}

theorem cutAt_0 (p : Option Addr) (m : Nat) : cutAt p 0 m = p := by
  unfold cutAt
  split
  · rfl
  · cases p with
    | none => rfl
    | some a => simp [Addr.add]
theorem run_sliceA_lo (w : World) {ty : TypeId} {n : Nat} {e : TypeId} (hu : P.underlying ty = some (.array n e)) (hsz : (P.info? e).map (·.size) = some 1) (g p : Nat) (k : IntKind) (l : Nat) (h : l < n) :
    (Instr.sliceAt ty (.pointer (some ⟨g, p, none⟩)) (some (.int k (l : Int))) none none).run P w = .ok (.slice (some ⟨g, p + l, none⟩) (n - l) (n - l)) w := by
  obtain ⟨i, hi1, hi2⟩ : ∃ i, P.info? e = some i ∧ i.size = 1 := by simpa using hsz
  have hne : ¬ n = l := by omega
  have hle : l ≤ n := by omega
  simp [Instr.sliceAt, run_underlying hu, Instr.sliceBounds, run_sliceBound, hle, sizeOf, typeInfo, hi1, hi2, hne, addr_add, Instr.sureAddr]
theorem run_sliceA_hi (w : World) {ty : TypeId} {n : Nat} {e : TypeId} (hu : P.underlying ty = some (.array n e)) (hsz : (P.info? e).map (·.size) = some 1) (g p : Nat) (k : IntKind) (h : Nat) (hh : h ≤ n) :
    (Instr.sliceAt ty (.pointer (some ⟨g, p, none⟩)) none (some (.int k (h : Int))) none).run P w = .ok (.slice (some ⟨g, p, none⟩) h n) w := by
  obtain ⟨i, hi1, hi2⟩ : ∃ i, P.info? e = some i ∧ i.size = 1 := by simpa using hsz
  simp [Instr.sliceAt, run_underlying hu, Instr.sliceBounds, run_sliceBound, hh, sizeOf, typeInfo, hi1, Addr.add, Instr.sureAddr]
theorem run_sliceA_all (w : World) {ty : TypeId} {n : Nat} {e : TypeId} (hu : P.underlying ty = some (.array n e)) (hsz : (P.info? e).map (·.size) = some 1) (g p : Nat) :
    (Instr.sliceAt ty (.pointer (some ⟨g, p, none⟩)) none none none).run P w = .ok (.slice (some ⟨g, p, none⟩) n n) w := by
  obtain ⟨i, hi1, hi2⟩ : ∃ i, P.info? e = some i ∧ i.size = 1 := by simpa using hsz
  simp [Instr.sliceAt, run_underlying hu, Instr.sliceBounds, sizeOf, typeInfo, hi1, Addr.add, Instr.sureAddr]
theorem run_slice_hi (w : World) {ty e : TypeId} (hu : P.underlying ty = some (.slice e)) (hsz : (P.info? e).map (·.size) = some 1) (p : Option Addr) (n c : Nat) (k : IntKind) (h : Nat) (hh : h ≤ c) :
    (Instr.sliceAt ty (.slice p n c) none (some (.int k (h : Int))) none).run P w = .ok (.slice p h c) w := by
  obtain ⟨i, hi1, hi2⟩ : ∃ i, P.info? e = some i ∧ i.size = 1 := by simpa using hsz
  have := cutAt_0 p c
  simp [Instr.sliceAt, Instr.slice, run_underlying hu, Instr.sliceBounds, run_sliceBound, hh, sizeOf, typeInfo, hi1, Addr.add]
theorem run_slice_lo (w : World) {ty e : TypeId} (hu : P.underlying ty = some (.slice e)) (hsz : (P.info? e).map (·.size) = some 1) (p : Option Addr) (n c : Nat) (k : IntKind) (l : Nat) (hl : l ≤ n) :
    (Instr.sliceAt ty (.slice p n c) (some (.int k (l : Int))) none none).run P w = .ok (.slice (cutAt p l c) (n - l) (c - l)) w := by
  obtain ⟨i, hi1, hi2⟩ : ∃ i, P.info? e = some i ∧ i.size = 1 := by simpa using hsz
  simp [Instr.sliceAt, Instr.slice, run_underlying hu, Instr.sliceBounds, run_sliceBound, hl, sizeOf, typeInfo, hi1, hi2, cutAt]

/-- min of two ints -/
theorem wl_min {w : World} {ops : Array Oper} {rest : List Oper} {o : Oper} {a : Act} {Q : Exit → Act → World → Prop} {x y : Operand} {ts : Array TypeId} (hgd : o.guard = none) (ho : o.op = .call { callee := .builtin .min, args := #[x, y], argTypes := ts })
    {k k' : IntKind} {xi yi : Int} (hx : a.eval x = .int k xi) (hy : a.eval y = .int k' yi) (r : Nat) (hr : (if yi < xi then yi else xi) = (r : Int)) (h : wpList P ops Q rest (a.put o.dst (.int k (r : Int))) w) : wpList P ops Q (o :: rest) a w := by
  refine wpList_plain hgd fun K hK => ?_
  have hrun : (Builtin.min_ ts o.type #[.int k xi, .int k' yi]).run P w = .ok (.int k (r : Int)) w := by rw [run_min_int2, hr]
  unfold Oper.wp execOp
  simp only [ho, resolve, invoke, builtin, Sem.run_bind, Sem.run_pure, Result.andThen_ok, List.map_toArray, List.map_cons, List.map_nil, hx, hy, hrun]
  exact hK _ _ h
end Go.Mv

/- A region that draws its order: the head under a condition S, one operation that may break S, and behind it operations that only yield values, under another condition. -/
namespace Go.Mv
open Go.RowKit
section
variable {P : Program} {ops : Array Oper} {md : Region.Mode} {Q : Exit → Act → World → Prop} {S S2 : World → Prop}

/-- each operation behind n waits for one that stands behind it no earlier than n -/
def behindB (md : Region.Mode) (ops : Array Oper) (n : Nat) : Bool :=
  (List.range ops.size).all fun t => decide (t ≤ n) || (List.range t).any fun j => decide (n ≤ j) && Region.waitsFor md ops t j

theorem head_first {n : Nat} {listed : Array Bool} (hs : Region.sinkB md ops n = true) (hb : behindB md ops n = true) (inv : HeadInv md ops n listed) {i : Nat} (hi : i < n) (hun : listed.getD i true = false) :
    ∀ t, n ≤ t → t ∉ Region.ready md ops listed := by
  have key : ∀ (d i : Nat), n - i = d → i < n → listed.getD i true = false → n ∉ Region.ready md ops listed := by
    intro d
    induction d using Nat.strongRecOn with
    | _ d ih =>
      intro i hd hi hun hr
      obtain ⟨-, on, hon, hall⟩ := mem_ready.1 hr
      obtain ⟨j, hj, hj2⟩ := List.any_eq_true.1 (List.all_eq_true.1 hs i (List.mem_range.2 hi))
      simp only [Bool.and_eq_true, decide_eq_true_eq] at hj2
      obtain ⟨oj, hoj, e, he, hbi, heon⟩ := Region.waitsFor_spec hj2.2
      have hjn := List.mem_range.1 hj
      rcases Nat.lt_or_ge j n with h | h
      · cases hl : listed.getD j false with
        | true =>
          have h2 := inv.closed j oj hoj hl e he hbi
          rw [heon, getD_both hun] at h2
          cases h2
        | false =>
          have hjs : j < listed.size := by
            have := (Array.getElem?_eq_some_iff.1 hoj).1
            rw [inv.size]; exact this
          exact ih (n - j) (by omega) j rfl h (getD_in hjs hl) hr
      · have : j = n := by omega
        subst this
        have : oj = on := Option.some.inj (hoj.symm.trans hon)
        subst this
        have h2 := hall e he hbi
        rw [heon, getD_both hun] at h2
        cases h2
  intro t ht hr
  rcases Nat.eq_or_lt_of_le ht with rfl | h
  · exact key _ i rfl hi hun hr
  · obtain ⟨-, ot, hot, hall⟩ := mem_ready.1 hr
    have htl := (Array.getElem?_eq_some_iff.1 hot).1
    have h1 := List.all_eq_true.1 hb t (List.mem_range.2 htl)
    simp only [Bool.or_eq_true, decide_eq_true_eq] at h1
    rcases h1 with h1 | h1
    · omega
    · obtain ⟨j, hj, hj2⟩ := List.any_eq_true.1 h1
      simp only [Bool.and_eq_true, decide_eq_true_eq] at hj2
      obtain ⟨o', ho', e, he, hbi, heon⟩ := Region.waitsFor_spec hj2.2
      have : o' = ot := Option.some.inj (ho'.symm.trans hot)
      subst this
      have h2 := hall e he hbi
      have hjt := List.mem_range.1 hj
      rw [heon, getD_both (inv.tail j hj2.1 (by omega))] at h2
      cases h2

/-- behind the head: B -/
def wpAnyU (P : Program) (md : Region.Mode) (ops : Array Oper) (Q : Exit → Act → World → Prop) (S : World → Prop) (n : Nat) (B : Array Bool → Act → World → Prop) : Nat → Array Bool → Act → World → Prop
  | 0, listed, a, w => Region.ready md ops listed = [n] ∧ B listed a w
  | f + 1, listed, a, w =>
    Region.ready md ops listed ≠ [] ∧ ∀ i ∈ Region.ready md ops listed, i < n ∧ wpOp P ops Q i (fun a' w' => S w' ∧ wpAnyU P md ops Q S n B f (listed.setIfInBounds i true) a' w') a w

theorem wpAny_of_U {n g : Nat} {B : Array Bool → Act → World → Prop} (hB : ∀ listed a w, Region.ready md ops listed = [n] → B listed a w → wpAny P md ops Q g listed a w) :
    ∀ (f : Nat) (listed : Array Bool) (a : Act) (w : World), wpAnyU P md ops Q S n B f listed a w → wpAny P md ops Q (f + g) listed a w
  | 0, listed, a, w, h => by rw [Nat.zero_add]; exact hB _ _ _ h.1 h.2
  | f + 1, listed, a, w, h => by
    rw [show f + 1 + g = (f + g) + 1 by omega]
    exact ⟨fun h0 => absurd h0 h.1, fun i hi => wpOp_mono (fun a' w' h' => wpAny_of_U hB f _ a' w' h'.2) (h.2 i hi).2⟩

theorem wpAnyU_first {n i : Nat} {oi : Oper} {v : Value} {B : Array Bool → Act → World → Prop} (hi : ops[i]? = some oi) (hsel : ∀ (j : Nat) (o : Oper) cs b, ops[j]? = some o → o.op ≠ .select cs b)
    (hQ : ∀ c a w, Q (.panic c) (a.put oi.dst v) w → Q (.panic c) a w) (hs : Region.sinkB md ops n = true) (hb : behindB md ops n = true) (hin : i < n) :
    ∀ (f : Nat) (listed : Array Bool) (a : Act) (w : World), HeadInv md ops n listed →
      (∀ j oj, ops[j]? = some oj → j ≠ i → listed.getD j true = false → (∀ e ∈ oj.after, Region.binds md e = true → e.on ≠ i) → oi.apart ops oj = true) →
      i ∈ Region.ready md ops listed → YieldsIf P ops S oi v a → S w →
      wpAnyU P md ops Q S n B f (listed.setIfInBounds i true) (a.put oi.dst v) w → wpAnyU P md ops Q S n B (f + 1) listed a w := by
  intro f
  induction f with
  | zero =>
    intro listed a w inv _ hr hy hS H
    have hun := (mem_ready.1 hr).1
    refine ⟨fun h => (by rw [h] at hr; cases hr), fun j hj => ?_⟩
    have hjn : j < n := Nat.lt_of_not_le fun h => head_first hs hb inv hin hun j h hj
    refine ⟨hjn, ?_⟩
    by_cases hji : j = i
    · subst hji; exact hy.wpOp hi hS ⟨hS, H⟩
    · have h2 := ready_mono hj hji
      rw [H.1] at h2
      simp only [List.mem_singleton] at h2
      omega
  | succ f ih =>
    intro listed a w inv hfree hr hy hS H
    have hun := (mem_ready.1 hr).1
    refine ⟨fun h => (by rw [h] at hr; cases hr), fun j hj => ?_⟩
    have hjn : j < n := Nat.lt_of_not_le fun h => head_first hs hb inv hin hun j h hj
    refine ⟨hjn, ?_⟩
    by_cases hji : j = i
    · subst hji; exact hy.wpOp hi hS ⟨hS, H⟩
    · have h1 := (H.2 j (ready_mono hj hji)).2
      obtain ⟨hjun, oj, hoj, hall⟩ := mem_ready.1 hj
      have hnot : ∀ e ∈ oj.after, Region.binds md e = true → e.on ≠ i := fun e he hb heq => by
        have h1 := hall e he hb
        rw [heq, getD_both hun] at h1
        cases h1
      have h2 := wpOp_putIf hoj (hfree j oj hoj hji hjun hnot) (fun cs b => hsel i oi cs b hi) (fun cs b => hsel j oj cs b hoj) hQ hy h1
      have hfree' : ∀ k ok, ops[k]? = some ok → k ≠ i → (listed.setIfInBounds j true).getD k true = false →
          (∀ e ∈ ok.after, Region.binds md e = true → e.on ≠ i) → oi.apart ops ok = true := fun k ok hk hki hun hno => by
        refine hfree k ok hk hki ?_ hno
        by_cases hjk : j = k
        · subst hjk; exact hjun
        · rw [getD_set_ne true hjk] at hun; exact hun
      refine wpOp_mono (fun a' w' h3 => ⟨h3.2.1, ih (listed.setIfInBounds j true) a' w' (inv.set hj hjn) hfree' (ready_mono hr (Ne.symm hji)) h3.1 h3.2.1 ?_⟩) h2
      rw [Array.setIfInBounds_comm _ _ hji]
      exact h3.2.2

/-- the head in the order s, then B -/
def wpSeqU (P : Program) (ops : Array Oper) (Q : Exit → Act → World → Prop) (S : World → Prop) (B : Act → World → Prop) : List (Nat × Bool) → Act → World → Prop
  | [], a, w => B a w
  | (i, true) :: r, a, w => ∃ o v, ops[i]? = some o ∧ YieldsIf P ops S o v a ∧ wpSeqU P ops Q S B r (a.put o.dst v) w
  | (i, false) :: r, a, w => ∃ o, ops[i]? = some o ∧ o.guard = none ∧ o.wp P a w (fun a' w' => S w' ∧ wpSeqU P ops Q S B r a' w') Q
/-- what follows the one operation: values only -/
def wpSeqB (P : Program) (ops : Array Oper) (Q : Exit → Act → World → Prop) (S : World → Prop) : List Nat → Act → World → Prop
  | [], a, w => Q .normal a w
  | i :: r, a, w => ∃ o v, ops[i]? = some o ∧ YieldsIf P ops S o v a ∧ wpSeqB P ops Q S r (a.put o.dst v) w
def seqOkB (md : Region.Mode) (ops : Array Oper) : List Nat → Array Bool → Bool
  | [], listed => (Region.ready md ops listed).isEmpty
  | i :: r, listed => (Region.ready md ops listed).contains i && Region.free md ops listed i && seqOkB md ops r (listed.setIfInBounds i true)
def seqOkU (md : Region.Mode) (ops : Array Oper) (n : Nat) (s2 : List Nat) : List (Nat × Bool) → Array Bool → Bool
  | [], listed => decide (Region.ready md ops listed = [n]) && seqOkB md ops s2 (listed.setIfInBounds n true)
  | (i, true) :: r, listed => decide (i < n) && (Region.ready md ops listed).contains i && Region.free md ops listed i && seqOkU md ops n s2 r (listed.setIfInBounds i true)
  | (i, false) :: r, listed => decide (i < n) && decide (Region.ready md ops listed = [i]) && seqOkU md ops n s2 r (listed.setIfInBounds i true)

theorem wpAnyH_of_seqB (hsel : Region.noSelect ops = true) (hQ : ∀ c (d : Option Tmp) v a w, Q (.panic c) (Act.put a d v) w → Q (.panic c) a w) :
    ∀ (r : List Nat) (listed : Array Bool) (a : Act) (w : World), seqOkB md ops r listed = true → S w → wpSeqB P ops Q S r a w → wpAnyH P md ops Q S r.length listed a w
  | [], listed, a, w, hB, _, h => wpAnyH_done (by simpa [seqOkB] using hB) h 0
  | i :: r, listed, a, w, hB, hS, h => by
    obtain ⟨o, v, ho, hy, hK⟩ := h
    simp only [seqOkB, Bool.and_eq_true] at hB
    obtain ⟨⟨hr, hf⟩, hB'⟩ := hB
    exact wpAnyH_take ho hsel hf hr (fun c a w => hQ c o.dst v a w) hy hS (wpAnyH_of_seqB hsel hQ r _ _ w hB' hS hK)

theorem wpAnyU_of_seq {n : Nat} {s2 : List Nat} {B : Act → World → Prop} (hsel : Region.noSelect ops = true) (hs : Region.sinkB md ops n = true) (hb : behindB md ops n = true)
    (hQ : ∀ c (d : Option Tmp) v a w, Q (.panic c) (Act.put a d v) w → Q (.panic c) a w) :
    ∀ (s : List (Nat × Bool)) (listed : Array Bool) (a : Act) (w : World), HeadInv md ops n listed → seqOkU md ops n s2 s listed = true → S w → wpSeqU P ops Q S B s a w →
      wpAnyU P md ops Q S n (fun l a w => seqOkB md ops s2 (l.setIfInBounds n true) = true ∧ B a w) s.length listed a w
  | [], listed, a, w, _, hB, _, h => by
    simp only [seqOkU, Bool.and_eq_true, decide_eq_true_eq] at hB
    exact ⟨hB.1, hB.2, h⟩
  | (i, true) :: r, listed, a, w, inv, hB, hS, h => by
    obtain ⟨o, v, ho, hy, hK⟩ := h
    simp only [seqOkU, Bool.and_eq_true, decide_eq_true_eq] at hB
    obtain ⟨⟨⟨hin, hr⟩, hf⟩, hB'⟩ := hB
    have hr' : i ∈ Region.ready md ops listed := by simpa using hr
    exact wpAnyU_first ho (Region.noSelect_spec hsel) (fun c a w => hQ c o.dst v a w) hs hb hin r.length listed a w inv (Region.free_spec ho hf) hr' hy hS
      (wpAnyU_of_seq hsel hs hb hQ r _ _ w (inv.set hr' hin) hB' hS hK)
  | (i, false) :: r, listed, a, w, inv, hB, hS, h => by
    obtain ⟨o, ho, hg, hK⟩ := h
    simp only [seqOkU, Bool.and_eq_true, decide_eq_true_eq] at hB
    obtain ⟨⟨hin, hr⟩, hB'⟩ := hB
    have hr' : i ∈ Region.ready md ops listed := by rw [hr]; simp
    refine ⟨by rw [hr]; simp, fun j hj => ?_⟩
    rw [hr] at hj
    have hj' : j = i := by simpa using hj
    subst hj'
    refine ⟨hin, ?_⟩
    unfold wpOp
    simp only [ho]
    rw [if_pos (by simp [Region.wanted, hg])]
    exact .inl (Oper.wp_mono (fun a' w' h' => ⟨h'.1, wpAnyU_of_seq hsel hs hb hQ r _ a' w' (inv.set hr' hin) hB' h'.1 h'.2⟩) hK)

def tailOkU (ops : Array Oper) (n : Nat) (s : List (Nat × Bool)) (s2 : List Nat) : Bool :=
  Region.noSelect ops && decide (n < ops.size) && decide (s.length = n) && decide (s2.length = ops.size - n - 1) && Region.sinkB .any ops n && behindB .any ops n && seqOkU .any ops n s2 s (Array.replicate ops.size false)

/-- THE BEGINNING -/
theorem wp_region_seq2 {id : Nat} {a : Act} {w : World} {l : List Oper} (S S2 : World → Prop) (n : Nat) (s : List (Nat × Bool)) (s2 : List Nat) (hm : P.follows .mixedOrders = true) (hB : tailOkU l.toArray n s s2 = true)
    (hS : S w.drew) (hQ : ∀ c (d : Option Tmp) v a w, Q (.panic c) (Act.put a d v) w → Q (.panic c) a w)
    (h : wpSeqU P l.toArray Q S (fun a w => ∃ o, l[n]? = some o ∧ o.guard = none ∧ o.wp P a w (fun a' w' => S2 w' ∧ wpSeqB P l.toArray Q S2 s2 a' w') Q) s a w.drew) : (Code.region id l.toArray true).wp P Q a w := by
  simp only [tailOkU, Bool.and_eq_true, decide_eq_true_eq] at hB
  obtain ⟨⟨⟨⟨⟨⟨hsel, hn⟩, hlen⟩, hlen2⟩, hs⟩, hb⟩, hseq⟩ := hB
  have inv0 : HeadInv .any l.toArray n (Array.replicate l.toArray.size false) :=
    ⟨by simp, fun j oj _ hl => (by rw [getD_replicate_false] at hl; cases hl), fun t _ ht => getD_in (by simpa using ht) (getD_replicate_false _ _)⟩
  have H := wpAnyU_of_seq (md := .any) hsel hs hb hQ s _ a w.drew inv0 hseq hS h
  refine wp_region_any hm ?_
  have := wpAny_of_U (g := s2.length + 1) (fun listed a w hr hBB => by
    obtain ⟨hok, o, ho, hg, hK⟩ := hBB
    refine ⟨fun h0 => (by rw [hr] at h0; cases h0), fun i hi => ?_⟩
    rw [hr] at hi
    have hi' : i = n := by simpa using hi
    subst hi'
    unfold wpOp
    have ho' : l.toArray[i]? = some o := by simpa using ho
    simp only [ho']
    rw [if_pos (by simp [Region.wanted, hg])]
    exact .inl (Oper.wp_mono (fun a' w' h' => wpAny_of_held _ _ _ _ (wpAnyH_of_seqB hsel hQ s2 _ a' w' hok h'.1 h'.2)) hK)) _ _ _ _ H
  rw [hlen, hlen2, show n + (l.toArray.size - n - 1 + 1) = l.toArray.size by omega] at this
  exact this

/- the steps -/
variable {l : List Oper} {i : Nat} {r : List (Nat × Bool)} {r2 : List Nat} {B : Act → World → Prop} {a : Act} {w : World} {o : Oper}
theorem sequ_pure (ho : l[i]? = some o) (hg : o.guard = none) {v : Value} (hv : ∀ wx, S wx → (execOp a.eval o).run P wx = .ok (.value v) wx) (h : wpSeqU P l.toArray Q S B r (a.put o.dst v) w) : wpSeqU P l.toArray Q S B ((i, true) :: r) a w :=
  ⟨o, v, by simpa using ho, .inl ⟨by simp [Region.wanted, hg], hv⟩, h⟩
theorem sequ_arr (ho : l[i]? = some o) (hg : o.guard = none) {ty : TypeId} {x : Operand} (hop : o.op = .load ty x) {g p : Nat} (hx : a.eval x = .pointer (some ⟨g, p, none⟩)) (cs : List Value) (hS : ∀ wx, S wx → wx.rangeAt g p cs)
    {d : TypeDesc} (hu : P.underlying ty = some d) (hd : d.isRow = true) (hi : (P.info? ty).map (·.size) = some cs.length) (h : wpSeqU P l.toArray Q S B r (a.put o.dst (.agg cs.toArray)) w) : wpSeqU P l.toArray Q S B ((i, true) :: r) a w :=
  ⟨o, _, by simpa using ho, yieldsIf_load_mid (by simp [Region.wanted, hg]) ty x hop g p hx cs d hS hu hd hi, h⟩
theorem sequ_one (ho : l[i]? = some o) (hg : o.guard = none) (h : o.wp P a w (fun a' w' => S2 w' ∧ wpSeqB P l.toArray Q S2 r2 a' w') Q) :
    wpSeqU P l.toArray Q S (fun a w => ∃ o, l[i]? = some o ∧ o.guard = none ∧ o.wp P a w (fun a' w' => S2 w' ∧ wpSeqB P l.toArray Q S2 r2 a' w') Q) [] a w := ⟨o, ho, hg, h⟩
theorem seqb_pure (ho : l[i]? = some o) (hg : o.guard = none) {v : Value} (hv : ∀ wx, S2 wx → (execOp a.eval o).run P wx = .ok (.value v) wx) (h : wpSeqB P l.toArray Q S2 r2 (a.put o.dst v) w) : wpSeqB P l.toArray Q S2 (i :: r2) a w :=
  ⟨o, v, by simpa using ho, .inl ⟨by simp [Region.wanted, hg], hv⟩, h⟩
theorem seqb_end (h : Q .normal a w) : wpSeqB P l.toArray Q S2 [] a w := h
end
end Go.Mv

/- mont: lineTop, Mul. -/
/-- a slot of an act is set -/
theorem Go.Mv.clL : (∀ (a : Go.Act) (d : Nat) (v : Go.Value), a.put (some d) v = { a with tmps := a.tmps.setIfInBounds d v }) ∧ (∀ (a : Go.Act) (v : Go.Value), a.put none v = a) ∧ (∀ (l : List Go.Value) (i : Nat) (x : Go.Value), l.toArray.setIfInBounds i x = (l.set i x).toArray) ∧ (∀ (x y : Go.Value) (l : List Go.Value), (x :: l).set 0 y = y :: l) ∧ (∀ (x y : Go.Value) (l : List Go.Value) (i : Nat), (x :: l).set (i + 1) y = x :: l.set i y) :=
  ⟨fun _ _ _ => rfl, fun _ _ => rfl, fun _ _ _ => by simp, fun _ _ _ => rfl, fun _ _ _ _ => rfl⟩
namespace Go.Proofs.YtemcankmggmgoaaDoor
open Go.RowKit Go.Mv Mvp
attribute [local irreducible] limbs lw mix cw cSub cAdd cMul beN laid be32 montT mstep
set_option maxHeartbeats 4000000 in
set_option maxRecDepth 100000 in
theorem lineTop_any (gt V m n : Nat) (w : World) (ht : Has w gt (cw 6 V) 112) (hm : m < 18446744073709551616) (hn : n < B64 ^ 4) (hV : V + m * n < B64 ^ 6) (hVV : V < B64 ^ 6) :
    Calls Tryd.prog 61 #[.pointer (some ⟨gt, 0, none⟩), .int .u64 (m : Int), i4 n] w fun e w' => e = .returned (.tuple #[.int .u64 (lw (V + m * n) 4 : Nat), .int .u64 (lw (V + m * n) 5 : Nat)]) ∧ Has w' gt (cw 6 (mix (V + m * n) V 4)) 112 ∧ Fr (One gt) w w' := by
  have HM := Lib.hid hm
  have hlt := line_top V m n hn hV hVV
  have HS0 := Lib.hid hlt.1
  have HS1 := Lib.hid hlt.2.1
  have HS2 := Lib.hid hlt.2.2
  clear hlt hn hV hVV
  clear hm
  have st0 := St.one ht
  go_enter Tryd.func61, Tryd.ntmps61
  go_wp2_with (with_reducible refine wl_stop (o := ⟨some 5, _, _, _, _, _⟩) ?_)
  refine wl_boxS st0 rfl rfl rfl (cw 4 n) rfl ?_
  intro g5 w1 st1
  clear st0
  have c5 := (st1.at 0 rfl).cell (cw_get 6 V 5 (by decide))
  have c4 := (st1.at 0 rfl).cell (cw_get 6 V 4 (by decide))
  go_wp2_with fail
  refine wp_region_noPanic ?_
  refine wp_region_seq2 (fun wx => St (One gt) w wx [(gt, cw 6 V, 112), (g5, cw 4 n, 42)]) (fun wx => St (One gt) w wx [(gt, cw 6 (mix (V + m * n) V 4), 112), (g5, cw 4 n, 42)]) 7 [(0, true), (1, true), (2, true), (3, true), (4, true), (5, true), (6, true)] [8, 9, 10, 11, 12] (by kernel_rfl) (by kernel_rfl) st1.drew (fun _ _ _ _ _ h => h) ?_
  have hd1 := st1.drew
  refine sequ_pure (v := ?_) rfl rfl (fun wx hS => ?_) ?_
  rotate_left 1
  · (clear hS; go_simp; with_reducible rfl)
  try simp only [Go.Mv.clL]
  refine sequ_pure (v := ?_) rfl rfl (fun wx hS => ?_) ?_
  rotate_left 1
  · (clear hS; go_simp; with_reducible rfl)
  try simp only [Go.Mv.clL]
  refine sequ_arr rfl rfl rfl rfl (cw 4 n) (fun wx hS => St.rangeL hS 1 rfl 0 _ (by rw [List.drop_zero, List.take_of_length_le (Nat.le_refl _)])) Tryd.underlying42 rfl (by simp only [cw_len]; kernel_rfl) ?_
  try simp only [Go.Mv.clL]
  refine sequ_pure (v := ?_) rfl rfl (fun wx hS => ?_) ?_
  rotate_left 1
  · (clear hS; go_simp; with_reducible rfl)
  try simp only [Go.Mv.clL]
  refine sequ_pure (v := ?_) rfl rfl (fun wx hS => ?_) ?_
  rotate_left 1
  · (clear hS; go_simp; with_reducible rfl)
  try simp only [Go.Mv.clL]
  refine sequ_pure (v := ?_) rfl rfl (fun wx hS => ?_) ?_
  rotate_left 1
  · (clear hS; go_simp; with_reducible rfl)
  try simp only [Go.Mv.clL]
  refine sequ_pure (v := ?_) rfl rfl (fun wx hS => ?_) ?_
  rotate_left 1
  · (have hc := (St.at hS 0 rfl).cell (cw_get 6 V 4 (by decide)); clear hS; go_simp; with_reducible rfl)
  try simp only [Go.Mv.clL]
  refine sequ_one rfl rfl ?_
  go_simp
  refine (line_any gt V m n (lw V 4) 112 _ (St.at hd1 0 rfl) HM.out (lw_lt V 4)).mono ?_
  rintro e' w2 ⟨rfl, hg2, hf2⟩
  have st2 : St (One gt) w w2 [(gt, cw 6 (mix (V + m * n) V 4), 112), (g5, cw 4 n, 42)] := hd1.put 0 rfl hf2 hg2
  clear hd1 hf2 hg2
  refine ⟨st2, ?_⟩
  try simp only [Go.Mv.clL]
  refine seqb_pure (v := ?_) rfl rfl (fun wx hS => ?_) ?_
  rotate_left 1
  · (clear hS; go_simp; with_reducible rfl)
  try simp only [Go.Mv.clL]
  refine seqb_pure (v := ?_) rfl rfl (fun wx hS => ?_) ?_
  rotate_left 1
  · (clear hS; go_simp; with_reducible rfl)
  try simp only [Go.Mv.clL]
  refine seqb_pure (v := ?_) rfl rfl (fun wx hS => ?_) ?_
  rotate_left 1
  · (clear hS; go_simp; with_reducible rfl)
  try simp only [Go.Mv.clL]
  refine seqb_pure (v := ?_) rfl rfl (fun wx hS => ?_) ?_
  rotate_left 1
  · (clear hS; go_simp; with_reducible rfl)
  try simp only [Go.Mv.clL]
  refine seqb_pure (v := ?_) rfl rfl (fun wx hS => ?_) ?_
  rotate_left 1
  · (clear hS; go_simp; with_reducible rfl)
  try simp only [Go.Mv.clL]
  refine seqb_end ?_
  refine NoPanic.normal ?_
  have hg := st2.at 0 rfl
  have hfr := st2.fr
  clear st2
  have hs := HS2.out
  go_wp2_with fail
  go_ret2
  rw [← HS0.out, ← HS1.out]
  exact ⟨rfl, hg, hfr⟩
end Go.Proofs.YtemcankmggmgoaaDoor

/- A modulus of mont's: its numbers, its block. -/
namespace Mvp
structure Md where
  M : Nat
  neg : Nat
  Ri : Nat
structure Md.Ok (m : Md) : Prop where
  one : 1 < m.M
  lt : m.M < B64 ^ 4
  negLt : m.neg < 18446744073709551616
  neg : (m.M * m.neg + 1) % 18446744073709551616 = 0
  inv : B64 ^ 4 * m.Ri % m.M = 1
def mP : Md := ⟨pP, 15580212934572586289, 91248989341183975618893650062416139444822672217621753343178995607984094583082⟩
def mQ : Md := ⟨pQ, 5408259542528602431, 98562742561918706241446412617699626731164144128788972284189895985653995782166⟩
theorem mP_ok : mP.Ok := ⟨by decide, by decide, by decide, by decide, by decide⟩
theorem mQ_ok : mQ.Ok := ⟨by decide, by decide, by decide, by decide, by decide⟩
theorem mont_bounds (T b M x V mm : Nat) (hb : b < M) (hM : M < B64 ^ 4) (hT : T < b + M) (hx : x < 18446744073709551616) (hV : T + x * b = V) (hm : mm < 18446744073709551616) :
    T < B64 ^ 5 ∧ T + x * b < B64 ^ 6 ∧ V < B64 ^ 6 ∧ V + mm * M < B64 ^ 6 := by
  have h1 : x * b ≤ 18446744073709551615 * b := Nat.mul_le_mul_right _ (by omega)
  have h2 : mm * M ≤ 18446744073709551615 * M := Nat.mul_le_mul_right _ (by omega)
  have e4 : B64 ^ 5 = 18446744073709551616 * B64 ^ 4 := by rw [Nat.pow_succ, Nat.mul_comm]
  have e5 : B64 ^ 6 = 18446744073709551616 * B64 ^ 5 := by rw [Nat.pow_succ, Nat.mul_comm]
  generalize B64 ^ 6 = R6 at *
  generalize B64 ^ 5 = R5 at *
  generalize B64 ^ 4 = R4 at *
  omega
theorem lw4_one (T : Nat) (h2 : T < 2 * B64 ^ 4) (h : ¬ T < B64 ^ 4) : lw T 4 = 1 := by
  have h0 := b64_pos 4
  have hd : T / B64 ^ 4 = 1 := by
    generalize B64 ^ 4 = R at *
    have h1 : T - R < R := by omega
    rw [show T = (T - R) + R by omega, Nat.add_div_right _ h0, Nat.div_eq_of_lt h1]
  unfold lw
  rw [hd]; rfl
theorem mont_final (T M : Nat) (hM : M < B64 ^ 4) (hT : T < 2 * M) :
    (T < M → lw T 4 = 0 ∧ cSub T M 4 = 1 ∧ Go.Mv.cw 4 (T % M) = Go.Mv.cw 4 T) ∧
    (¬ T < M → Go.Mv.cw 4 (T % M) = Go.Mv.cw 4 (T + B64 ^ 4 - M) ∧ (T < B64 ^ 4 → lw T 4 = 0 ∧ cSub T M 4 = 0)) := by
  constructor
  · intro h
    exact ⟨lw_top T 4 4 (Nat.lt_trans h hM) (Nat.le_refl _), by rw [cSub_all _ _ _ (Nat.lt_trans h hM) hM, if_pos h], by rw [Nat.mod_eq_of_lt h]⟩
  · intro h
    refine ⟨?_, fun h4 => ⟨lw_top T 4 4 h4 (Nat.le_refl _), by rw [cSub_all _ _ _ h4 hM, if_neg h]⟩⟩
    rw [mod_of_lt2 T M hT, if_neg h, ← Go.Mv.cw_mod 4 (T + B64 ^ 4 - M), show T + B64 ^ 4 - M = (T - M) + B64 ^ 4 by omega, Nat.add_mod_right, Go.Mv.cw_mod]
theorem montT_zero (M neg b a : Nat) : montT M neg b a 0 = 0 := rfl
theorem montT_succ (M neg b a k : Nat) : montT M neg b a (k + 1) = (montT M neg b a k + lw a k * b + ((montT M neg b a k + lw a k * b) % 18446744073709551616 * neg % 18446744073709551616) * M) / 18446744073709551616 := rfl
end Mvp
namespace Go.Mv
open Go.RowKit Mvp
def mdL (m : Md) : List Value := cw 4 m.M ++ ([.int .u64 (m.neg : Int)] ++ (cw 4 (B64 ^ 4 % m.M) ++ cw 4 (B64 ^ 4 * B64 ^ 4 % m.M)))
theorem md_M (m : Md) : ((mdL m).drop 0).take (cw 4 m.M).length = cw 4 m.M := by simp [mdL]
theorem md_one (m : Md) : ((mdL m).drop 5).take (cw 4 (B64 ^ 4 % m.M)).length = cw 4 (B64 ^ 4 % m.M) := by
  have h : (cw 4 m.M ++ [Value.int .u64 (m.neg : Int)]).length = 5 := by rw [List.length_append, cw_len]; rfl
  rw [mdL, ← List.append_assoc, List.drop_append_of_le_length (by omega), List.drop_of_length_le (by omega), List.nil_append]
  simp
theorem md_sq (m : Md) : ((mdL m).drop 9).take (cw 4 (B64 ^ 4 * B64 ^ 4 % m.M)).length = cw 4 (B64 ^ 4 * B64 ^ 4 % m.M) := by
  have h : (cw 4 m.M ++ ([Value.int .u64 (m.neg : Int)] ++ cw 4 (B64 ^ 4 % m.M))).length = 9 := by rw [List.length_append, List.length_append, cw_len, cw_len]; rfl
  have e : mdL m = (cw 4 m.M ++ ([Value.int .u64 (m.neg : Int)] ++ cw 4 (B64 ^ 4 % m.M))) ++ cw 4 (B64 ^ 4 * B64 ^ 4 % m.M) := by simp [mdL]
  rw [e, List.drop_append_of_le_length (by omega), List.drop_of_length_le (by omega), List.nil_append, List.take_of_length_le (Nat.le_refl _)]
theorem md_neg (m : Md) : (mdL m)[4]? = some (.int .u64 (m.neg : Int)) := by
  rw [mdL, List.getElem?_append_right (by rw [cw_len]; exact Nat.le_refl _), cw_len]; rfl
theorem shift6 (V : Nat) (h : V < B64 ^ 6) : (splice (cw 6 V) 0 (((cw 6 V).drop 1).take 5)).set 5 (.int .u64 0) = cw 6 (V / 18446744073709551616) := by
  have e : V / 18446744073709551616 = V / B64 ^ 1 := by rw [Nat.pow_one]
  have h6 : lw V 6 = 0 := lw_top V 6 6 h (Nat.le_refl _)
  have hw := fun i => lw_div V 1 i
  rw [e]
  show _ = [Value.int .u64 (lw (V / B64 ^ 1) 0 : Nat), Value.int .u64 (lw (V / B64 ^ 1) 1 : Nat), Value.int .u64 (lw (V / B64 ^ 1) 2 : Nat), Value.int .u64 (lw (V / B64 ^ 1) 3 : Nat), Value.int .u64 (lw (V / B64 ^ 1) 4 : Nat), Value.int .u64 (lw (V / B64 ^ 1) 5 : Nat)]
  rw [hw 0, hw 1, hw 2, hw 3, hw 4, hw 5, show 1 + 5 = 6 from rfl, h6]
  rfl
theorem cw6_low (V : Nat) : ((cw 6 V).drop 0).take (cw 4 V).length = cw 4 V := rfl
end Go.Mv

/- A region that draws its order, as XTail's, where two operations of the head may come in either order (an allocation and a call). -/
namespace Go.Mv
open Go.RowKit
section
variable {P : Program} {ops : Array Oper} {md : Region.Mode} {Q : Exit → Act → World → Prop} {S : World → Prop}

/-- orders of the head: t: it only yields a value; r: it is carried out; b: one of two is carried out -/
inductive Sc where
  | nil
  | t (i : Nat) (s : Sc)
  | r (i : Nat) (s : Sc)
  | b (i j : Nat) (s u : Sc)
def Sc.len : Sc → Nat
  | .nil => 0
  | .t _ s => s.len + 1
  | .r _ s => s.len + 1
  | .b _ _ s _ => s.len + 1

def wpTree (P : Program) (ops : Array Oper) (Q : Exit → Act → World → Prop) (S : World → Prop) (tl : List Oper) : Sc → Act → World → Prop
  | .nil, a, w => wpList P ops Q tl a w
  | .t i s, a, w => ∃ o v, ops[i]? = some o ∧ YieldsIf P ops S o v a ∧ wpTree P ops Q S tl s (a.put o.dst v) w
  | .r i s, a, w => ∃ o, ops[i]? = some o ∧ o.guard = none ∧ o.wp P a w (fun a' w' => S w' ∧ wpTree P ops Q S tl s a' w') Q
  | .b i j s u, a, w => (∃ o, ops[i]? = some o ∧ o.guard = none ∧ o.wp P a w (fun a' w' => S w' ∧ wpTree P ops Q S tl s a' w') Q) ∧
      (∃ o, ops[j]? = some o ∧ o.guard = none ∧ o.wp P a w (fun a' w' => S w' ∧ wpTree P ops Q S tl u a' w') Q)

def treeOk (md : Region.Mode) (ops : Array Oper) (n g : Nat) : Sc → Array Bool → Bool
  | .nil, listed => Region.seqB md ops g n listed
  | .t i s, listed => decide (i < n) && (Region.ready md ops listed).contains i && Region.free md ops listed i && treeOk md ops n g s (listed.setIfInBounds i true)
  | .r i s, listed => decide (i < n) && decide (Region.ready md ops listed = [i]) && treeOk md ops n g s (listed.setIfInBounds i true)
  | .b i j s u, listed => decide (i < n) && decide (j < n) && decide (s.len = u.len) && decide (Region.ready md ops listed = [i, j]) && treeOk md ops n g s (listed.setIfInBounds i true) && treeOk md ops n g u (listed.setIfInBounds j true)

theorem wpAnyT_of_tree {n g : Nat} {tl : List Oper} (hsel : Region.noSelect ops = true) (hs : Region.sinkB md ops n = true) (hc : Region.chainB md ops n = true) (hn : n < ops.size)
    (hQ : ∀ c (d : Option Tmp) v a w, Q (.panic c) (Act.put a d v) w → Q (.panic c) a w) :
    ∀ (s : Sc) (listed : Array Bool) (a : Act) (w : World), HeadInv md ops n listed → treeOk md ops n g s listed = true → S w → wpTree P ops Q S tl s a w → wpAnyT P md ops Q S n g tl s.len listed a w
  | .nil, listed, a, w, _, hB, _, h => ⟨hB, h⟩
  | .t i r, listed, a, w, inv, hB, hS, h => by
    obtain ⟨o, v, ho, hy, hK⟩ := h
    simp only [treeOk, Bool.and_eq_true, decide_eq_true_eq] at hB
    obtain ⟨⟨⟨hin, hr⟩, hf⟩, hB'⟩ := hB
    have hr' : i ∈ Region.ready md ops listed := by simpa using hr
    exact wpAnyT_first ho (Region.noSelect_spec hsel) (fun c a w => hQ c o.dst v a w) hs hc hn hin r.len listed a w inv (Region.free_spec ho hf) hr' hy hS
      (wpAnyT_of_tree hsel hs hc hn hQ r _ _ w (inv.set hr' hin) hB' hS hK)
  | .r i r, listed, a, w, inv, hB, hS, h => by
    obtain ⟨o, ho, hg, hK⟩ := h
    simp only [treeOk, Bool.and_eq_true, decide_eq_true_eq] at hB
    obtain ⟨⟨hin, hr⟩, hB'⟩ := hB
    have hr' : i ∈ Region.ready md ops listed := by rw [hr]; simp
    refine ⟨by rw [hr]; simp, fun j hj => ?_⟩
    rw [hr] at hj
    have hj' : j = i := by simpa using hj
    subst hj'
    refine ⟨hin, ?_⟩
    unfold wpOp
    simp only [ho]
    rw [if_pos (by simp [Region.wanted, hg])]
    exact .inl (Oper.wp_mono (fun a' w' h' => ⟨h'.1, wpAnyT_of_tree hsel hs hc hn hQ r _ a' w' (inv.set hr' hin) hB' h'.1 h'.2⟩) hK)
  | .b i j r u, listed, a, w, inv, hB, hS, h => by
    obtain ⟨⟨o, ho, hg, hK⟩, ⟨o2, ho2, hg2, hK2⟩⟩ := h
    simp only [treeOk, Bool.and_eq_true, decide_eq_true_eq] at hB
    obtain ⟨⟨⟨⟨⟨hin, hjn⟩, hlen⟩, hr⟩, hB1⟩, hB2⟩ := hB
    have hri : i ∈ Region.ready md ops listed := by rw [hr]; simp
    have hrj : j ∈ Region.ready md ops listed := by rw [hr]; simp
    refine ⟨by rw [hr]; simp, fun k hk => ?_⟩
    rw [hr] at hk
    have hk' : k = i ∨ k = j := by simpa using hk
    rcases hk' with e | e
    · subst e
      refine ⟨hin, ?_⟩
      unfold wpOp
      simp only [ho]
      rw [if_pos (by simp [Region.wanted, hg])]
      exact .inl (Oper.wp_mono (fun a' w' h' => ⟨h'.1, wpAnyT_of_tree hsel hs hc hn hQ r _ a' w' (inv.set hri hin) hB1 h'.1 h'.2⟩) hK)
    · subst e
      refine ⟨hjn, ?_⟩
      unfold wpOp
      simp only [ho2]
      rw [if_pos (by simp [Region.wanted, hg2])]
      rw [hlen]
      exact .inl (Oper.wp_mono (fun a' w' h' => ⟨h'.1, wpAnyT_of_tree hsel hs hc hn hQ u _ a' w' (inv.set hrj hjn) hB2 h'.1 h'.2⟩) hK2)

def tailOkT (ops : Array Oper) (n : Nat) (s : Sc) : Bool :=
  Region.noSelect ops && decide (n < ops.size) && decide (s.len = n) && Region.sinkB .any ops n && Region.chainB .any ops n && treeOk .any ops n (ops.size - n) s (Array.replicate ops.size false)

/-- THE BEGINNING -/
theorem wp_region_tree {id : Nat} {a : Act} {w : World} {l : List Oper} (S : World → Prop) (n : Nat) (s : Sc) (hm : P.follows .mixedOrders = true) (hB : tailOkT l.toArray n s = true)
    (hS : S w.drew) (hQ : ∀ c (d : Option Tmp) v a w, Q (.panic c) (Act.put a d v) w → Q (.panic c) a w)
    (h : wpTree P l.toArray Q S (l.drop n) s a w.drew) : (Code.region id l.toArray true).wp P Q a w := by
  simp only [tailOkT, Bool.and_eq_true, decide_eq_true_eq] at hB
  obtain ⟨⟨⟨⟨⟨hsel, hn⟩, hlen⟩, hs⟩, hc⟩, hseq⟩ := hB
  have inv0 : HeadInv .any l.toArray n (Array.replicate l.toArray.size false) :=
    ⟨by simp, fun j oj _ hl => (by rw [getD_replicate_false] at hl; cases hl), fun t _ ht => getD_in (by simpa using ht) (getD_replicate_false _ _)⟩
  have hdl : (l.drop n).length = l.toArray.size - n := by simp
  rw [← hdl] at hseq
  have H := wpAnyT_of_tree (md := .any) (g := (l.drop n).length) (tl := l.drop n) hsel hs hc hn hQ s _ a w.drew inv0 hseq hS h
  refine wp_region_any hm ?_
  have := wpAny_of_T (md := .any) (n := n) (tl := l.drop n) (fun j => by simp [List.getElem?_drop]) _ _ _ _ H
  rw [hlen, hdl, show n + (l.toArray.size - n) = l.toArray.size by omega] at this
  exact this

/- the steps -/
variable {l tl : List Oper} {i j : Nat} {s u : Sc} {a : Act} {w : World} {o o2 : Oper}
theorem tree_end (h : wpList P ops Q tl a w) : wpTree P ops Q S tl .nil a w := h
theorem tree_pure (ho : l[i]? = some o) (hg : o.guard = none) {v : Value} (hv : ∀ wx, S wx → (execOp a.eval o).run P wx = .ok (.value v) wx) (h : wpTree P l.toArray Q S tl s (a.put o.dst v) w) : wpTree P l.toArray Q S tl (.t i s) a w :=
  ⟨o, v, by simpa using ho, .inl ⟨by simp [Region.wanted, hg], hv⟩, h⟩
theorem tree_run (ho : l[i]? = some o) (hg : o.guard = none) (h : o.wp P a w (fun a' w' => S w' ∧ wpTree P l.toArray Q S tl s a' w') Q) : wpTree P l.toArray Q S tl (.r i s) a w :=
  ⟨o, by simpa using ho, hg, h⟩
theorem tree_arr (ho : l[i]? = some o) (hg : o.guard = none) {ty : TypeId} {x : Operand} (hop : o.op = .load ty x) {g p : Nat} (hx : a.eval x = .pointer (some ⟨g, p, none⟩)) (cs : List Value) (hS : ∀ wx, S wx → wx.rangeAt g p cs)
    {d : TypeDesc} (hu : P.underlying ty = some d) (hd : d.isRow = true) (hi : (P.info? ty).map (·.size) = some cs.length) (h : wpTree P l.toArray Q S tl s (a.put o.dst (.agg cs.toArray)) w) : wpTree P l.toArray Q S tl (.t i s) a w :=
  ⟨o, _, by simpa using ho, yieldsIf_load_mid (by simp [Region.wanted, hg]) ty x hop g p hx cs d hS hu hd hi, h⟩
/-- either first; what follows the region is shown once (F: found at the first way's end) -/
theorem tree_both {C F : Nat → World → Prop} (ho : l[i]? = some o) (hg : o.guard = none) (ho2 : l[j]? = some o2) (hg2 : o2.guard = none)
    (h1 : (∀ g w', C g w' → F g w') → o.wp P a w (fun a' w' => S w' ∧ wpTree P l.toArray Q S tl s a' w') Q)
    (h2 : (∀ g w', C g w' → F g w') → o2.wp P a w (fun a' w' => S w' ∧ wpTree P l.toArray Q S tl u a' w') Q)
    (h : ∀ g w', C g w' → F g w') : wpTree P l.toArray Q S tl (.b i j s u) a w :=
  ⟨⟨o, by simpa using ho, hg, h1 h⟩, ⟨o2, by simpa using ho2, hg2, h2 h⟩⟩
end
section
variable {P : Program} {w w0 : World} {o : Oper} {a : Act} {K : Act → World → Prop} {Q : Exit → Act → World → Prop} {S : Nat → Prop} {bl : List (Nat × List Value × TypeId)}
theorem wp_allocS (hst : St S w0 w bl) {e : TypeId} (ho : o.op = .alloc e) {z : Value} (hi : (P.info? e).map (·.zero) = some (some z)) (L : List Value) (hL : z.cells.toList = L)
    (h : ∀ g w', St S w0 w' (bl ++ [(g, L, e)]) → K (a.put o.dst (.pointer (some ⟨g, 0, none⟩))) w') : o.wp P a w K Q := by
  obtain ⟨i, hi1, hz⟩ : ∃ i, P.info? e = some i ∧ i.zero = some z := by simpa using hi
  have hr : (Instr.alloc e true (.tuple #[])).run P w = .ok (.pointer (some ⟨w.heap.size, 0, none⟩)) (w.alloc (.cells z.cells e)) := by
    simp [Instr.alloc, zeroValue, typeInfo, hi1, hz, newVar, newRow]
  unfold Oper.wp execOp
  simp only [ho, Sem.run_bind, Sem.run_pure, Result.andThen_ok, hr]
  have hg := Has.new w z.cells e
  rw [hL] at hg
  exact h _ _ (hst.new ((Fr.refl _ w).alloc _) hg (Nat.le_refl _))
theorem wp_storeS (hst : St S w0 w bl) (i : Nat) {g : Nat} {L : List Value} {T : TypeId} (hb : bl[i]? = some (g, L, T)) {ty : TypeId} {x y : Operand} (ho : o.op = .store ty x y) (hx : a.eval x = .pointer (some ⟨g, 0, none⟩)) {cs : List Value} (hy : a.eval y = .agg cs.toArray)
    (hn : cs.length = L.length) (hi : (P.info? ty).map (·.size) = some cs.length) (h1 : ∀ v ∈ cs, v.oneCell' = true)
    (h : ∀ w', St S w0 w' (bl.set i (g, cs, T)) → K (a.put o.dst undef) w') : o.wp P a w K Q := by
  obtain ⟨k1, k2, _⟩ := Has.setCells cs 0 L w (hst.at i hb) (by omega)
  rw [splice_whole _ _ hn] at k1
  exact wp_store_mid ty x y ho g 0 cs.toArray hx hy (by simpa using (hst.at i hb).there 0 cs.length (by omega)) (by simpa using hi) (all_oneCell_toArray h1) (by simpa using h _ (hst.put i hb k2 k1))
end
end Go.Mv

/- (*mont.Modulus).Mul: Montgomery's product. -/
namespace Go.Proofs.YtemcankmggmgoaaDoor
open Go.RowKit Go.Mv Mvp
attribute [local irreducible] limbs lw mix cw cSub cAdd cMul beN laid be32 montT mstep
set_option maxHeartbeats 8000000 in
set_option maxRecDepth 100000 in
theorem MMul_any (m : Md) (gp a b : Nat) (w : World) (hok : m.Ok) (hpm : Has w gp (mdL m) 72) (ha : a < B64 ^ 4) (hb : b < m.M) :
    Calls Tryd.prog 40 #[.pointer (some ⟨gp, 0, none⟩), i4 a, i4 b] w fun e w' => e = .returned (i4 (a * b * m.Ri % m.M)) ∧ Fr Nob w w' := by
  have HOK := Lib.hid hok
  have HPM := Lib.hid hpm
  have HA := Lib.hid ha
  have HB := Lib.hid hb
  clear hok hpm ha hb
  have st0 := St.start Nob w
  go_enter Tryd.func40, Tryd.ntmps40
  go_wp2_with (with_reducible refine wl_stop (o := ⟨some 4, _, _, _, _, _⟩) ?_)
  refine wl_boxS st0 rfl rfl rfl (cw 4 a) rfl ?_
  intro g4 w1 st1
  clear st0
  go_wp2_with (with_reducible refine wl_stop (o := ⟨some 5, _, _, _, _, _⟩) ?_)
  refine wl_boxS st1 rfl rfl rfl (cw 4 b) rfl ?_
  intro g5 w2 st2
  clear st1
  go_wp2_with (with_reducible refine wl_stop (o := ⟨some 6, _, _, _, _, _⟩) ?_)
  refine wl_allocS st2 rfl rfl (z := .agg #[.int .u64 0, .int .u64 0, .int .u64 0, .int .u64 0]) (by kernel_rfl) (cw 4 0) (by rw [cw_zero]; rfl) ?_
  intro g6 w3 st3
  clear st2
  go_wp2_with (with_reducible refine wl_stop (o := ⟨some 7, _, _, _, _, _⟩) ?_)
  refine wl_allocS st3 rfl rfl (z := .agg #[.int .u64 0, .int .u64 0, .int .u64 0, .int .u64 0, .int .u64 0, .int .u64 0]) (by kernel_rfl) (cw 6 0) (by rw [cw_zero]; rfl) ?_
  intro g7 w4 st4
  clear st3
  go_wp2_with (with_reducible refine wl_stop (o := ⟨some 14, _, _, _, _, _⟩) ?_)
  refine wl_loadS st4 0 rfl rfl rfl Tryd.underlying47 rfl (by simp only [cw_len]; kernel_rfl) ?_
  go_wp2
  go_loopw [15] (fun i wr => ∃ k : Nat, k ≤ 4 ∧ i = .int .i64 (k : Int) ∧ St Nob w wr [(g4, cw 4 a, 47), (g5, cw 4 b, 47), (g6, cw 4 0, 47), (g7, cw 6 (montT m.M m.neg b a k), 112)]) (fun i _ => 4 - (intOf i).toNat)
  case atStart => exact ⟨0, by omega, rfl, by rw [montT_zero]; exact st4⟩
  case round =>
    obtain ⟨k, hk, rfl, st⟩ := hrel
    clear st4
    by_cases hlt : k < 4
    · have hltI : (k : Int) < 4 := by omega
      have e0 := fun wx => run_index_cw (P := Tryd.prog) Tryd.underlying47 Tryd.underlying32 size_u64 a k hlt .i64 wx
      have hTl := montT_lt m.M m.neg b a k (by have := HOK.out.one; omega)
      obtain ⟨b1, b2, b3, b4⟩ := mont_bounds (montT m.M m.neg b a k) b m.M (lw a k) (montT m.M m.neg b a k + lw a k * b) ((montT m.M m.neg b a k + lw a k * b) % 18446744073709551616 * m.neg % 18446744073709551616) HB.out HOK.out.lt hTl (lw_lt a k) rfl (Nat.mod_lt _ (by decide))
      have hsucc : montT m.M m.neg b a (k + 1) = (montT m.M m.neg b a k + lw a k * b + ((montT m.M m.neg b a k + lw a k * b) % 18446744073709551616 * m.neg % 18446744073709551616) * m.M) / 18446744073709551616 := montT_succ m.M m.neg b a k
      generalize hT : montT m.M m.neg b a k = T at *
      generalize hT' : montT m.M m.neg b a (k + 1) = T' at *
      have hx := lw_lt a k
      obtain ⟨l1, l2, l3⟩ := line_top T (lw a k) b (Nat.lt_trans HB.out HOK.out.lt) b2 (Nat.lt_trans b1 (by decide))
      have z5 : lw T 5 = 0 := lw_top T 5 5 b1 (Nat.le_refl _)
      rw [z5, Nat.zero_add] at l2
      have hline := fun wx (h : Has wx g7 (cw 6 T) 112) => line_any g7 T (lw a k) b (lw T 4) 112 wx h hx (lw_lt T 4)
      rw [l1, l2] at hline
      generalize hxx : lw a k = x at *
      generalize hV : T + x * b = V at *
      have hw0 := word0 V
      generalize hmm : V % 18446744073709551616 * m.neg % 18446744073709551616 = mm at *
      have hm64 : mm < 18446744073709551616 := by rw [← hmm]; exact Nat.mod_lt _ (by decide)
      have hmul : IntKind.u64.wrap ((lw V 0 : Int) * (m.neg : Int)) = (mm : Int) := by
        rw [IntKind.wrap_u64, ← hmm, hw0, ← Int.natCast_mul]; rfl
      have hlt2 := fun wx (h : Has wx g7 (cw 6 V) 112) => lineTop_any g7 V mm m.M wx h hm64 HOK.out.lt b4 b3
      generalize hV2 : V + mm * m.M = V2 at *
      have hshift := shift6 V2 b4
      rw [← hsucc] at hshift
      have HLINE := Lib.hid hline
      have HLT2 := Lib.hid hlt2
      have HSHIFT := Lib.hid hshift
      have HT := Lib.hid hT
      have HT' := Lib.hid hT'
      clear hTl b1 b2 b3 b4 hsucc l1 l2 l3 z5 hline hV hw0 hmm hm64 hlt2 hV2 hshift hT hT' hx hxx
      have ct := (st.at 3 rfl).cell (cw_get 6 T 4 (by decide))
      go_wp2_with (with_reducible refine wl_stop (o := ⟨some 20, _, _, _, _, _⟩) ?_)
      refine wl_loadS st 1 rfl rfl rfl Tryd.underlying47 rfl (by simp only [cw_len]; kernel_rfl) ?_
      go_wp2_with fail
      refine (HLINE.out _ (st.at 3 rfl)).mono ?_
      rintro e' w5 ⟨rfl, hg5, hf5⟩
      have st5 : St Nob w w5 [(g4, cw 4 a, 47), (g5, cw 4 b, 47), (g6, cw 4 0, 47), (g7, cw 6 (mix V T 4), 112)] := st.put 3 rfl hf5 hg5
      clear st hf5 hg5
      clear ct
      obtain ⟨v4, c4, f4⟩ := (st5.at 3 rfl).ready (i := 4) (by rw [cw_len]; decide)
      obtain ⟨v5, c5, f5⟩ := (st5.at 3 rfl).ready (i := 5) (by rw [cw_len]; decide)
      go_wp2_with fail
      have stA := (st5.set 3 rfl 4 (.int .u64 (lw V 4 : Nat))).set 3 rfl 5 (.int .u64 (lw V 5 : Nat))
      have hcw : ((cw 6 (mix V T 4)).set 4 (.int .u64 (lw V 4 : Nat))).set 5 (.int .u64 (lw V 5 : Nat)) = cw 6 V := by rw [cw_set 6 V T 4 (by decide), cw_set 6 V T 5 (by decide), mix_full]
      rw [hcw] at stA
      clear hcw c4 c5 f4 f5 v4 v5 st5
      generalize (World.setCell (World.setCell w5 ⟨g7, 4, none⟩ (.int .u64 (lw V 4 : Nat))) ⟨g7, 5, none⟩ (.int .u64 (lw V 5 : Nat))) = wA at *
      have stA : St Nob w wA [(g4, cw 4 a, 47), (g5, cw 4 b, 47), (g6, cw 4 0, 47), (g7, cw 6 V, 112)] := stA
      have cv := (stA.at 3 rfl).cell (cw_get 6 V 0 (by decide))
      have cn := (HPM.out.keep stA.fr id).cell (md_neg m)
      go_quiet (fail)
      have stB := stA.drewN nq
      clear stA cv cn
      go_wp2_with (with_reducible refine wl_stop (o := ⟨some 40, _, _, _, _, _⟩) ?_)
      refine wl_loadA rfl rfl Tryd.underlying42 rfl (HPM.out.keep stB.fr id) (cw 4 m.M) (md_M m) (by simp only [cw_len]; kernel_rfl) ?_
      go_wp2_with fail
      refine (HLT2.out _ (stB.at 3 rfl)).mono ?_
      rintro e' w7 ⟨rfl, hg7, hf7⟩
      have st7 : St Nob w w7 [(g4, cw 4 a, 47), (g5, cw 4 b, 47), (g6, cw 4 0, 47), (g7, cw 6 (mix V2 V 4), 112)] := stB.put 3 rfl hf7 hg7
      clear stB hf7 hg7
      obtain ⟨v4, c4, f4⟩ := (st7.at 3 rfl).ready (i := 4) (by rw [cw_len]; decide)
      obtain ⟨v5, c5, f5⟩ := (st7.at 3 rfl).ready (i := 5) (by rw [cw_len]; decide)
      go_wp2_with fail
      have stC := (st7.set 3 rfl 4 (.int .u64 (lw V2 4 : Nat))).set 3 rfl 5 (.int .u64 (lw V2 5 : Nat))
      have hcw : ((cw 6 (mix V2 V 4)).set 4 (.int .u64 (lw V2 4 : Nat))).set 5 (.int .u64 (lw V2 5 : Nat)) = cw 6 V2 := by rw [cw_set 6 V2 V 4 (by decide), cw_set 6 V2 V 5 (by decide), mix_full]
      rw [hcw] at stC
      clear hcw c4 c5 f4 f5 v4 v5 st7
      generalize (World.setCell (World.setCell w7 ⟨g7, 4, none⟩ (.int .u64 (lw V2 4 : Nat))) ⟨g7, 5, none⟩ (.int .u64 (lw V2 5 : Nat))) = wC at *
      have stC : St Nob w wC [(g4, cw 4 a, 47), (g5, cw 4 b, 47), (g6, cw 4 0, 47), (g7, cw 6 V2, 112)] := stC
      have k1 := fun wx => run_sliceA_hi (P := Tryd.prog) wx Tryd.underlying112 size_u64 g7 0 .i64 5 (by decide)
      have k2 := fun wx => run_sliceA_lo (P := Tryd.prog) wx Tryd.underlying112 size_u64 g7 0 .i64 1 (by decide)
      refine wp_region_noPanic ?_
      refine wp_region_seq (fun wx => St Nob w wx [(g4, cw 4 a, 47), (g5, cw 4 b, 47), (g6, cw 4 0, 47), (g7, cw 6 V2, 112)]) 2 [(0, true), (1, true)] (by kernel_rfl) (by kernel_rfl) stC.drew (fun _ _ _ _ _ h => h) ?_
      have stD := stC.drew
      clear stC
      refine seq_pure (v := ?_) rfl rfl (fun wx hS => ?_) ?_
      rotate_left 1
      · (clear hS; go_simp; with_reducible rfl)
      try simp only [Go.Mv.clL]
      refine seq_pure (v := ?_) rfl rfl (fun wx hS => ?_) ?_
      rotate_left 1
      · (clear hS; go_simp; with_reducible rfl)
      try simp only [Go.Mv.clL]
      refine seq_end ?_
      try simp only [List.drop_succ_cons, List.drop_zero]
      refine wl_copy rfl rfl Tryd.underlying117 size_u64 rfl rfl (stD.at 3 rfl) (Rd.ofHas (stD.at 3 rfl) 1 (n := 5) (by rw [cw_len]; decide)) (fun v hv => cw_one _ _ v (List.mem_of_mem_drop (List.mem_of_mem_take hv))) (by rw [cw_len]; decide) ?_
      intro wE hgE hfE hzE
      clear hzE
      have stE := stD.put 3 rfl hfE hgE
      clear stD hgE hfE
      obtain ⟨v5, c5, f5⟩ := (stE.at 3 rfl).ready (i := 5) (by rw [splice_length _ _ _ (by simp [cw_len])]; rw [cw_len]; decide)
      go_wp2_with fail
      refine NoPanic.normal ?_
      clear k1 k2
      go_wp2_with fail
      have stF := stE.set 3 rfl 5 (.int .u64 0)
      clear stE c5 f5
      go_roundw
      case rel =>
        refine ⟨k + 1, by omega, by go_num, ?_⟩
        rw [HT'.out]
        have hh := stF
        have h6 := HSHIFT.out
        simp only [List.set_cons_succ, List.set_cons_zero] at hh
        rw [show min 5 5 = 5 from rfl, List.take_take, show min 5 5 = 5 from rfl, h6] at hh
        exact hh
      case measure => simp [intOf]; omega
    · have hge : ¬ ((k : Int) < 4) := by omega
      have hk4 : k = 4 := by omega
      subst hk4
      have k4 : ∀ wx, (Instr.arrayAt 42 (.slice (some ⟨g7, 0, none⟩) 4 6)).run Tryd.prog wx = .ok (.pointer (some ⟨g7, 0, none⟩)) wx := fun wx => by simp [Instr.arrayAt, run_underlying Tryd.underlying42]
      have k3 := fun wx => run_sliceA_hi (P := Tryd.prog) wx Tryd.underlying112 size_u64 g7 0 .i64 4 (by decide)
      have hTl := montT_lt m.M m.neg b a 4 (by have := HOK.out.one; omega)
      have hval := mont_value m.M m.neg m.Ri a b (by have := HOK.out.one; omega) HA.out HOK.out.neg (by rw [HOK.out.inv, Nat.mod_eq_of_lt HOK.out.one])
      generalize hT : montT m.M m.neg b a 4 = T at *
      have HT := Lib.hid hT; clear hT
      have HTL := Lib.hid hTl; clear hTl
      have HVAL := Lib.hid hval; clear hval
      go_wp2_with (with_reducible refine wl_stop (o := ⟨some 53, _, _, _, _, _⟩) ?_)
      refine wl_loadA rfl rfl Tryd.underlying42 rfl (st.at 3 rfl) (cw 4 T) (cw6_low T) (by rw [cw_len]; exact size_mi) ?_
      clear k3 k4
      go_wp2_with (with_reducible refine wl_stop (o := ⟨some 11, _, _, _, _, _⟩) ?_)
      refine wl_allocS st rfl rfl (z := .agg #[.int .u64 0, .int .u64 0, .int .u64 0, .int .u64 0]) (by kernel_rfl) (cw 4 0) (by rw [cw_zero]; rfl) ?_
      intro g11 w5 st5
      clear st
      go_wp2_with (with_reducible refine wl_stop (o := ⟨none, _, _, _, _, _⟩) ?_)
      refine wl_storeS st5 4 rfl rfl rfl rfl rfl (by first | (simp only [cw_len]; done) | (simp only [List.length_append, cw_len]; done)) (by simp only [cw_len]; kernel_rfl) (cw_one _ _) ?_
      intro w6 st6
      clear st5
      go_wp2_with fail
      refine wp_region_noPanic ?_
      refine wp_region_tree (fun wx => St Nob w wx [(g4, cw 4 a, 47), (g5, cw 4 b, 47), (g6, cw 4 0, 47), (g7, cw 6 T, 112), (g11, cw 4 T, 42)]) 11 (.t 0 (.t 1 (.t 2 (.t 3 (.t 4 (.b 5 9 (.t 6 (.t 7 (.t 8 (.r 9 (.r 10 .nil))))) (.r 5 (.t 6 (.t 7 (.t 8 (.r 10 .nil))))))))))) (by kernel_rfl) (by kernel_rfl) st6.drew (fun _ _ _ _ _ h => h) ?_
      have hd6 := st6.drew
      clear st6
      refine tree_arr rfl rfl rfl rfl (cw 4 T) (fun wx hS => St.rangeL hS 4 rfl 0 _ (by rw [List.drop_zero, List.take_of_length_le (Nat.le_refl _)])) Tryd.underlying42 rfl (by simp only [cw_len]; kernel_rfl) ?_
      try simp only [Go.Mv.clL]
      refine tree_pure (v := ?_) rfl rfl (fun wx hS => ?_) ?_
      rotate_left 1
      · (clear hS; go_simp; with_reducible rfl)
      try simp only [Go.Mv.clL]
      refine tree_pure (v := ?_) rfl rfl (fun wx hS => ?_) ?_
      rotate_left 1
      · (clear hS; go_simp; with_reducible rfl)
      try simp only [Go.Mv.clL]
      refine tree_pure (v := ?_) rfl rfl (fun wx hS => ?_) ?_
      rotate_left 1
      · (clear hS; go_simp; with_reducible rfl)
      try simp only [Go.Mv.clL]
      refine tree_arr rfl rfl rfl rfl (cw 4 m.M) (fun wx hS => (HPM.out.keep (St.fr hS) id).range 0 _ (md_M m)) Tryd.underlying42 rfl (by simp only [cw_len]; kernel_rfl) ?_
      try simp only [Go.Mv.clL]
      refine tree_both (C := fun g12 wz => St Nob w wz [(g4, cw 4 a, 47), (g5, cw 4 b, 47), (g6, cw 4 0, 47), (g7, cw 6 T, 112), (g11, cw 4 T, 42), (g12, cw 4 (T + B64 ^ 4 - m.M), 42)]) (F := ?_) rfl rfl rfl rfl (fun key => ?_) (fun key => ?_) ?_
      rotate_left 1
      · skip
        go_simp
        refine (minus_any T m.M _ HOK.out.lt).mono ?_
        rintro e' w7 ⟨rfl, hf7⟩
        have st7 := hd6.keep hf7
        clear hf7
        refine ⟨st7, ?_⟩
        try simp only [Go.Mv.clL]
        refine tree_pure (v := ?_) rfl rfl (fun wx hS => ?_) ?_
        rotate_left 1
        · (clear hS; go_simp; with_reducible rfl)
        try simp only [Go.Mv.clL]
        refine tree_pure (v := ?_) rfl rfl (fun wx hS => ?_) ?_
        rotate_left 1
        · (clear hS; go_simp; with_reducible rfl)
        try simp only [Go.Mv.clL]
        refine tree_pure (v := ?_) rfl rfl (fun wx hS => ?_) ?_
        rotate_left 1
        · (clear hS; go_simp; with_reducible rfl)
        try simp only [Go.Mv.clL]
        refine tree_run rfl rfl ?_
        refine wp_allocS st7 rfl (z := .agg #[.int .u64 0, .int .u64 0, .int .u64 0, .int .u64 0]) (by kernel_rfl) (cw 4 0) (by rw [cw_zero]; rfl) ?_
        intro g12 w8 st8
        refine ⟨St.less st8 (by simp), ?_⟩
        try simp only [Go.Mv.clL]
        refine tree_run rfl rfl ?_
        refine wp_storeS st8 5 rfl rfl rfl rfl (by first | (simp only [cw_len]; done) | (simp only [List.length_append, cw_len]; done)) (by simp only [cw_len]; kernel_rfl) (cw_one _ _) ?_
        intro w9 st9
        refine ⟨St.less st9 (by simp), ?_⟩
        try simp only [Act.put]
        refine tree_end ?_
        try simp only [List.drop_succ_cons, List.drop_zero]
        go_wp2_with fail
        exact key g12 w9 st9
      · skip
        refine wp_allocS hd6 rfl (z := .agg #[.int .u64 0, .int .u64 0, .int .u64 0, .int .u64 0]) (by kernel_rfl) (cw 4 0) (by rw [cw_zero]; rfl) ?_
        intro g12 w10 st10
        refine ⟨St.less st10 (by simp), ?_⟩
        try simp only [Go.Mv.clL]
        refine tree_run rfl rfl ?_
        go_simp
        refine (minus_any T m.M _ HOK.out.lt).mono ?_
        rintro e' w11 ⟨rfl, hf11⟩
        have st11 := st10.keep hf11
        clear hf11
        refine ⟨St.less st11 (by simp), ?_⟩
        try simp only [Go.Mv.clL]
        refine tree_pure (v := ?_) rfl rfl (fun wx hS => ?_) ?_
        rotate_left 1
        · (clear hS; go_simp; with_reducible rfl)
        try simp only [Go.Mv.clL]
        refine tree_pure (v := ?_) rfl rfl (fun wx hS => ?_) ?_
        rotate_left 1
        · (clear hS; go_simp; with_reducible rfl)
        try simp only [Go.Mv.clL]
        refine tree_pure (v := ?_) rfl rfl (fun wx hS => ?_) ?_
        rotate_left 1
        · (clear hS; go_simp; with_reducible rfl)
        try simp only [Go.Mv.clL]
        refine tree_run rfl rfl ?_
        refine wp_storeS st11 5 rfl rfl rfl rfl (by first | (simp only [cw_len]; done) | (simp only [List.length_append, cw_len]; done)) (by simp only [cw_len]; kernel_rfl) (cw_one _ _) ?_
        intro w12 st12
        refine ⟨St.less st12 (by simp), ?_⟩
        try simp only [Act.put]
        refine tree_end ?_
        try simp only [List.drop_succ_cons, List.drop_zero]
        go_wp2_with fail
        exact key g12 w12 st12
      intro g12 w13 st13
      have st13 : St Nob w w13 [(g4, cw 4 a, 47), (g5, cw 4 b, 47), (g6, cw 4 0, 47), (g7, cw 6 T, 112), (g11, cw 4 T, 42), (g12, cw 4 (T + B64 ^ 4 - m.M), 42)] := st13
      clear hd6
      refine NoPanic.normal ?_
      have c4 := (st13.at 3 rfl).cell (cw_get 6 T 4 (by decide))
      have hfin := mont_final T m.M HOK.out.lt (by have := HTL.out; have := HB.out; omega)
      by_cases hlt2 : T < m.M
      · obtain ⟨f1, f2, f3⟩ := hfin.1 hlt2
        rw [f1] at c4
        rw [f2]
        have HF := Lib.hid f3
        clear hfin f1 f2 f3 hlt2
        go_wp2_with (with_reducible refine wl_stop (o := ⟨some 70, _, _, _, _, _⟩) ?_)
        refine wl_loadS st13 4 rfl rfl rfl Tryd.underlying42 rfl (by simp only [cw_len]; kernel_rfl) ?_
        go_wp2_with (with_reducible refine wl_stop (o := ⟨none, _, _, _, _, _⟩) ?_)
        refine wl_storeS st13 2 rfl rfl rfl rfl rfl (by first | (simp only [cw_len]; done) | (simp only [List.length_append, cw_len]; done)) (by simp only [cw_len]; kernel_rfl) (cw_one _ _) ?_
        intro w14 st14
        clear st13
        have hr := st14.at 2 rfl
        have hfr := st14.fr
        clear st14
        go_wp2_with fail
        exact bodyPost_ret (results_arr rfl rfl hr Tryd.underlying47 (by simp only [cw_len]; kernel_rfl)) rfl ⟨by rw [← HVAL.out]; unfold i4; rw [HF.out], hfr⟩
      · obtain ⟨f3, f4⟩ := hfin.2 hlt2
        have HF := Lib.hid f3
        by_cases hlt3 : T < B64 ^ 4
        · obtain ⟨f1, f2⟩ := f4 hlt3
          rw [f1] at c4
          rw [f2]
          clear hfin f1 f2 f3 f4 hlt2 hlt3
          go_wp2_with (with_reducible refine wl_stop (o := ⟨some 71, _, _, _, _, _⟩) ?_)
          refine wl_loadS st13 5 rfl rfl rfl Tryd.underlying42 rfl (by simp only [cw_len]; kernel_rfl) ?_
          go_wp2_with (with_reducible refine wl_stop (o := ⟨none, _, _, _, _, _⟩) ?_)
          refine wl_storeS st13 2 rfl rfl rfl rfl rfl (by first | (simp only [cw_len]; done) | (simp only [List.length_append, cw_len]; done)) (by simp only [cw_len]; kernel_rfl) (cw_one _ _) ?_
          intro w14 st14
          clear st13
          have hr := st14.at 2 rfl
          have hfr := st14.fr
          clear st14
          go_wp2_with fail
          exact bodyPost_ret (results_arr rfl rfl hr Tryd.underlying47 (by simp only [cw_len]; kernel_rfl)) rfl ⟨by rw [← HVAL.out]; unfold i4; rw [HF.out], hfr⟩
        · have f1 := lw4_one T (by have := HTL.out; have := HB.out; have := HOK.out.lt; omega) hlt3
          rw [f1] at c4
          clear hfin f1 f3 f4 hlt2 hlt3
          go_wp2_with (with_reducible refine wl_stop (o := ⟨some 71, _, _, _, _, _⟩) ?_)
          refine wl_loadS st13 5 rfl rfl rfl Tryd.underlying42 rfl (by simp only [cw_len]; kernel_rfl) ?_
          go_wp2_with (with_reducible refine wl_stop (o := ⟨none, _, _, _, _, _⟩) ?_)
          refine wl_storeS st13 2 rfl rfl rfl rfl rfl (by first | (simp only [cw_len]; done) | (simp only [List.length_append, cw_len]; done)) (by simp only [cw_len]; kernel_rfl) (cw_one _ _) ?_
          intro w14 st14
          clear st13
          have hr := st14.at 2 rfl
          have hfr := st14.fr
          clear st14
          go_wp2_with fail
          exact bodyPost_ret (results_arr rfl rfl hr Tryd.underlying47 (by simp only [cw_len]; kernel_rfl)) rfl ⟨by rw [← HVAL.out]; unfold i4; rw [HF.out], hfr⟩
end Go.Proofs.YtemcankmggmgoaaDoor

/- Plain: elements: a number times 2^256 modulo M. -/
namespace Mvp
def elN (m : Md) (x : Nat) : Nat := x * B64 ^ 4 % m.M
theorem el_lt (m : Md) (h : m.Ok) (x : Nat) : elN m x < m.M := Nat.mod_lt _ (by have := h.one; omega)
theorem el_lt4 (m : Md) (h : m.Ok) (x : Nat) : elN m x < B64 ^ 4 := Nat.lt_trans (el_lt m h x) h.lt
theorem el_one (m : Md) : B64 ^ 4 % m.M = elN m 1 := by rw [elN, Nat.one_mul]
theorem el_zero (m : Md) : elN m 0 = 0 := by rw [elN, Nat.zero_mul, Nat.zero_mod]
theorem el_mod (m : Md) (x : Nat) : elN m (x % m.M) = elN m x := by rw [elN, elN, Nat.mod_mul_mod]
theorem el_congr (m : Md) {x y : Nat} (h : x % m.M = y % m.M) : elN m x = elN m y := by rw [← el_mod, h, el_mod]
theorem el_Ri (m : Md) (h : m.Ok) (x : Nat) : x * B64 ^ 4 * m.Ri % m.M = x % m.M := by
  rw [Nat.mul_assoc, Nat.mul_mod, h.inv, Nat.mul_one, Nat.mod_mod]
theorem mulmod_help (a b R Ri M : Nat) : (a * R % M) * (b * R % M) * Ri % M = (a * b * R) * R * Ri % M := by
  rw [← Nat.mod_mul_mod (a * R % M * (b * R % M)), ← Nat.mul_mod, Nat.mod_mul_mod, Nat.mul_mul_mul_comm, ← Nat.mul_assoc (a * b)]
theorem tomod_help (n R Ri M : Nat) : n * (R * R % M) * Ri % M = n * R * R * Ri % M := by
  rw [← Nat.mod_mul_mod (n * (R * R % M)), Nat.mul_mod_mod, Nat.mod_mul_mod, ← Nat.mul_assoc]
theorem el_mul (m : Md) (h : m.Ok) (x y : Nat) : elN m x * elN m y * m.Ri % m.M = elN m (x * y) := by
  unfold elN
  rw [mulmod_help, el_Ri m h]
theorem el_to (m : Md) (h : m.Ok) (n : Nat) : n * (B64 ^ 4 * B64 ^ 4 % m.M) * m.Ri % m.M = elN m n := by
  rw [tomod_help, el_Ri m h, elN]
theorem el_from (m : Md) (h : m.Ok) (x : Nat) : elN m x * 1 * m.Ri % m.M = x % m.M := by
  rw [Nat.mul_one, elN, Nat.mod_mul_mod, el_Ri m h]
theorem el_add (m : Md) (x y : Nat) : (elN m x + elN m y) % m.M = elN m (x + y) := by
  rw [elN, elN, elN, ← Nat.add_mod, Nat.add_mul]
theorem el_inj (m : Md) (h : m.Ok) {x y : Nat} (e : elN m x = elN m y) : x % m.M = y % m.M := by
  rw [← el_from m h x, e, el_from m h y]
theorem el_sub (m : Md) (h : m.Ok) (x y : Nat) : (elN m x + m.M - elN m y) % m.M = elN m (x + (m.M - y % m.M)) := by
  have hM : 0 < m.M := by have := h.one; omega
  have hy := el_lt m h y
  have h1 : (elN m x + m.M - elN m y) + elN m y = elN m x + m.M := by omega
  have hym := Nat.mod_lt y hM
  -- both give elN x when elN y is added
  have e1 : ((elN m x + m.M - elN m y) % m.M + elN m y) % m.M = elN m x % m.M := by
    rw [Nat.mod_add_mod, h1, Nat.add_mod_right]
  have e2 : (elN m (x + (m.M - y % m.M)) + elN m y) % m.M = elN m x % m.M := by
    rw [el_add, Nat.mod_eq_of_lt (el_lt m h x)]
    refine el_congr m ?_
    rw [Nat.add_assoc, Nat.add_mod x, Nat.add_comm _ y, ← Nat.mod_add_mod y, show y % m.M + (m.M - y % m.M) = m.M by omega, Nat.mod_self, Nat.add_zero, Nat.mod_mod]
  have a1 := Nat.mod_lt (elN m x + m.M - elN m y) hM
  have a2 := el_lt m h (x + (m.M - y % m.M))
  generalize (elN m x + m.M - elN m y) % m.M = p at *
  generalize elN m (x + (m.M - y % m.M)) = q at *
  generalize elN m y = r at *
  have e3 : (p + r) % m.M = (q + r) % m.M := by rw [e1, e2]
  have l1 := Nat.div_add_mod (p + r) m.M
  have l2 := Nat.div_add_mod (q + r) m.M
  rcases Nat.lt_or_ge (p + r) m.M with h1 | h1 <;> rcases Nat.lt_or_ge (q + r) m.M with h2 | h2
  · rw [Nat.mod_eq_of_lt h1, Nat.mod_eq_of_lt h2] at e3; omega
  · rw [Nat.mod_eq_of_lt h1, Nat.mod_eq_sub_mod h2, Nat.mod_eq_of_lt (by omega)] at e3; omega
  · rw [Nat.mod_eq_of_lt h2, Nat.mod_eq_sub_mod h1, Nat.mod_eq_of_lt (by omega)] at e3; omega
  · rw [Nat.mod_eq_sub_mod h1, Nat.mod_eq_sub_mod h2, Nat.mod_eq_of_lt (by omega), Nat.mod_eq_of_lt (by omega)] at e3; omega
theorem add_carry (a b : Nat) (ha : a < B64 ^ 4) (hb : b < B64 ^ 4) : cAdd a b 4 = lw (a + b) 4 := by
  rw [cAdd_all a b 4 ha hb]
  unfold lw
  have h0 := b64_pos 4
  have : (a + b) / B64 ^ 4 < 2 := Nat.div_lt_of_lt_mul (by omega)
  exact (Nat.mod_eq_of_lt (Nat.lt_trans this (by decide))).symm
theorem sub_words_lt (a b M : Nat) (_ : a < M) (hb : b < M) (hM : M < B64 ^ 4) (h : a < b) : Go.Mv.cw 4 ((a + M - b) % M) = Go.Mv.cw 4 (a + B64 ^ 4 - b + M) := by
  rw [Nat.mod_eq_of_lt (by omega), ← Go.Mv.cw_mod 4 (a + B64 ^ 4 - b + M)]
  rw [show a + B64 ^ 4 - b + M = (a + M - b) + B64 ^ 4 by omega, Nat.add_mod_right, Go.Mv.cw_mod]
theorem sub_words_ge (a b M : Nat) (ha : a < M) (hb : b < M) (h : ¬ a < b) : Go.Mv.cw 4 ((a + M - b) % M) = Go.Mv.cw 4 (a + B64 ^ 4 - b) := by
  have _h := hb
  rw [show a + M - b = (a - b) + M by omega, Nat.add_mod_right, Nat.mod_eq_of_lt (by omega), ← Go.Mv.cw_mod 4 (a + B64 ^ 4 - b), show a + B64 ^ 4 - b = (a - b) + B64 ^ 4 by omega, Nat.add_mod_right, Go.Mv.cw_mod]
end Mvp

/- A region that draws its order, by a plan: operations that only yield values are taken ahead (w: in whatever world; t: under a condition S on the world, that holds till operation m is carried out), the others are carried out when nothing else can come (r, m), or in either order (b). -/
namespace Go.Mv
open Go.RowKit
section
variable {P : Program} {ops : Array Oper} {md : Region.Mode} {Q : Exit → Act → World → Prop} {S : World → Prop} {m : Nat}

def wpP (P : Program) (md : Region.Mode) (ops : Array Oper) (Q : Exit → Act → World → Prop) (S : World → Prop) (m : Nat) : Nat → Array Bool → Act → World → Prop
  | 0, listed, a, w => Region.ready md ops listed = [] ∧ Q .normal a w
  | f + 1, listed, a, w => (Region.ready md ops listed = [] → Q .normal a w) ∧
    ∀ i ∈ Region.ready md ops listed, wpOp P ops Q i (fun a' w' => (listed.getD m true = false → i ≠ m → S w') ∧ wpP P md ops Q S m f (listed.setIfInBounds i true) a' w') a w

theorem wpAny_of_P : ∀ (f : Nat) (listed : Array Bool) (a : Act) (w : World), wpP P md ops Q S m f listed a w → wpAny P md ops Q f listed a w
  | 0, _, _, _, h => h
  | f + 1, _, _, _, h => ⟨h.1, fun i hi => wpOp_mono (fun a' w' h' => wpAny_of_P f _ a' w' h'.2) (h.2 i hi)⟩

/-- what is listed is closed -/
structure Cl (md : Region.Mode) (ops : Array Oper) (listed : Array Bool) : Prop where
  size : listed.size = ops.size
  closed : ∀ j oj, ops[j]? = some oj → listed.getD j false = true → ∀ e ∈ oj.after, Region.binds md e = true → listed.getD e.on false = true
theorem Cl.set {i : Nat} {listed : Array Bool} (inv : Cl md ops listed) (hi : i ∈ Region.ready md ops listed) : Cl md ops (listed.setIfInBounds i true) := by
  obtain ⟨_, oi, hoi, hall⟩ := mem_ready.1 hi
  refine ⟨by simp [inv.size], fun j oj hj hl e he hb => ?_⟩
  by_cases hij : i = j
  · subst hij
    have : oj = oi := Option.some.inj (hj.symm.trans hoi)
    subst this
    exact getD_set_true (hall e he hb)
  · rw [getD_set_ne false hij] at hl
    exact getD_set_true (inv.closed j oj hj hl e he hb)
/-- m waits for i, through others -/
def ancB (md : Region.Mode) (ops : Array Oper) (m : Nat) : Nat → Nat → Bool
  | 0, _ => false
  | f + 1, i => (List.range ops.size).any fun j => Region.waitsFor md ops j i && (decide (j = m) || ancB md ops m f j)
theorem anc_waits {listed : Array Bool} (inv : Cl md ops listed) : ∀ (f i : Nat), ancB md ops m f i = true → listed.getD i true = false → m ∉ Region.ready md ops listed
  | 0, i, h, _ => by cases h
  | f + 1, i, h, hun => by
    intro hr
    obtain ⟨j, hj, hj2⟩ := List.any_eq_true.1 h
    simp only [Bool.and_eq_true, Bool.or_eq_true, decide_eq_true_eq] at hj2
    obtain ⟨oj, hoj, e, he, hb, hon⟩ := Region.waitsFor_spec hj2.1
    rcases hj2.2 with rfl | hja
    · obtain ⟨-, om, hom, hall⟩ := mem_ready.1 hr
      have : oj = om := Option.some.inj (hoj.symm.trans hom)
      subst this
      have h2 := hall e he hb
      rw [hon, getD_both hun] at h2
      cases h2
    · cases hl : listed.getD j false with
      | true =>
        have h2 := inv.closed j oj hoj hl e he hb
        rw [hon, getD_both hun] at h2
        cases h2
      | false =>
        have hjs : j < listed.size := by rw [inv.size]; exact (Array.getElem?_eq_some_iff.1 hoj).1
        exact anc_waits inv f j hja (getD_in hjs hl) hr

theorem wpP_takeW {i : Nat} {oi : Oper} {v : Value} (hi : ops[i]? = some oi) (hsel : ∀ (j : Nat) (o : Oper) cs b, ops[j]? = some o → o.op ≠ .select cs b)
    (hQ : ∀ c a w, Q (.panic c) (a.put oi.dst v) w → Q (.panic c) a w) (him : i ≠ m) (hm : m < ops.size) :
    ∀ (f : Nat) (listed : Array Bool) (a : Act) (w : World), Cl md ops listed →
      (∀ j oj, ops[j]? = some oj → j ≠ i → listed.getD j true = false → (∀ e ∈ oj.after, Region.binds md e = true → e.on ≠ i) → oi.apart ops oj = true) →
      i ∈ Region.ready md ops listed → YieldsIf P ops (fun _ => True) oi v a → (listed.getD m true = false → S w) →
      wpP P md ops Q S m f (listed.setIfInBounds i true) (a.put oi.dst v) w → wpP P md ops Q S m (f + 1) listed a w := by
  intro f
  induction f with
  | zero =>
    intro listed a w inv _ hr hy hS H
    refine ⟨fun h => (by rw [h] at hr; cases hr), fun j hj => ?_⟩
    by_cases hji : j = i
    · subst hji; exact hy.wpOp hi trivial ⟨fun h _ => hS h, H⟩
    · have := ready_mono hj hji
      rw [H.1] at this
      cases this
  | succ f ih =>
    intro listed a w inv hfree hr hy hS H
    have hun := (mem_ready.1 hr).1
    refine ⟨fun h => (by rw [h] at hr; cases hr), fun j hj => ?_⟩
    by_cases hji : j = i
    · subst hji; exact hy.wpOp hi trivial ⟨fun h _ => hS h, H⟩
    · have h1 := H.2 j (ready_mono hj hji)
      obtain ⟨hjun, oj, hoj, hall⟩ := mem_ready.1 hj
      have hnot : ∀ e ∈ oj.after, Region.binds md e = true → e.on ≠ i := fun e he hb heq => by
        have h1 := hall e he hb
        rw [heq, getD_both hun] at h1
        cases h1
      have h2 := wpOp_putIf hoj (hfree j oj hoj hji hjun hnot) (fun cs b => hsel i oi cs b hi) (fun cs b => hsel j oj cs b hoj) hQ hy h1
      have hfree' : ∀ k ok, ops[k]? = some ok → k ≠ i → (listed.setIfInBounds j true).getD k true = false →
          (∀ e ∈ ok.after, Region.binds md e = true → e.on ≠ i) → oi.apart ops ok = true := fun k ok hk hki hun hno => by
        refine hfree k ok hk hki ?_ hno
        by_cases hjk : j = k
        · subst hjk; exact hjun
        · rw [getD_set_ne true hjk] at hun; exact hun
      refine wpOp_mono (fun a' w' h3 => ?_) h2
      have hS' : listed.getD m true = false → j ≠ m → S w' := fun hml hjm => h3.2.1 (by rw [getD_set_ne true him]; exact hml) hjm
      refine ⟨hS', ih (listed.setIfInBounds j true) a' w' (inv.set hj) hfree' (ready_mono hr (Ne.symm hji)) h3.1 (fun hml => ?_) ?_⟩
      · by_cases hjm : j = m
        · subst hjm
          have : (listed.setIfInBounds j true).getD j true = true := by
            have hs : j < listed.size := by rw [inv.size]; exact hm
            simp [hs]
          rw [this] at hml; cases hml
        · exact hS' (by rwa [getD_set_ne true hjm] at hml) hjm
      · rw [Array.setIfInBounds_comm _ _ hji]
        exact h3.2.2

theorem wpP_takeS {i af : Nat} {oi : Oper} {v : Value} (hi : ops[i]? = some oi) (hsel : ∀ (j : Nat) (o : Oper) cs b, ops[j]? = some o → o.op ≠ .select cs b)
    (hQ : ∀ c a w, Q (.panic c) (a.put oi.dst v) w → Q (.panic c) a w) (him : i ≠ m) (hanc : ancB md ops m af i = true) :
    ∀ (f : Nat) (listed : Array Bool) (a : Act) (w : World), Cl md ops listed → listed.getD m true = false →
      (∀ j oj, ops[j]? = some oj → j ≠ i → listed.getD j true = false → (∀ e ∈ oj.after, Region.binds md e = true → e.on ≠ i) → oi.apart ops oj = true) →
      i ∈ Region.ready md ops listed → YieldsIf P ops S oi v a → S w →
      wpP P md ops Q S m f (listed.setIfInBounds i true) (a.put oi.dst v) w → wpP P md ops Q S m (f + 1) listed a w := by
  intro f
  induction f with
  | zero =>
    intro listed a w inv _ _ hr hy hS H
    refine ⟨fun h => (by rw [h] at hr; cases hr), fun j hj => ?_⟩
    by_cases hji : j = i
    · subst hji; exact hy.wpOp hi hS ⟨fun _ _ => hS, H⟩
    · have := ready_mono hj hji
      rw [H.1] at this
      cases this
  | succ f ih =>
    intro listed a w inv hml hfree hr hy hS H
    have hun := (mem_ready.1 hr).1
    refine ⟨fun h => (by rw [h] at hr; cases hr), fun j hj => ?_⟩
    by_cases hji : j = i
    · subst hji; exact hy.wpOp hi hS ⟨fun _ _ => hS, H⟩
    · have hjm : j ≠ m := fun e => anc_waits inv af i hanc hun (e ▸ hj)
      have h1 := H.2 j (ready_mono hj hji)
      obtain ⟨hjun, oj, hoj, hall⟩ := mem_ready.1 hj
      have hnot : ∀ e ∈ oj.after, Region.binds md e = true → e.on ≠ i := fun e he hb heq => by
        have h1 := hall e he hb
        rw [heq, getD_both hun] at h1
        cases h1
      have h2 := wpOp_putIf hoj (hfree j oj hoj hji hjun hnot) (fun cs b => hsel i oi cs b hi) (fun cs b => hsel j oj cs b hoj) hQ hy h1
      have hfree' : ∀ k ok, ops[k]? = some ok → k ≠ i → (listed.setIfInBounds j true).getD k true = false →
          (∀ e ∈ ok.after, Region.binds md e = true → e.on ≠ i) → oi.apart ops ok = true := fun k ok hk hki hun hno => by
        refine hfree k ok hk hki ?_ hno
        by_cases hjk : j = k
        · subst hjk; exact hjun
        · rw [getD_set_ne true hjk] at hun; exact hun
      refine wpOp_mono (fun a' w' h3 => ?_) h2
      have hS' : S w' := h3.2.1 (by rw [getD_set_ne true him]; exact hml) hjm
      refine ⟨fun _ _ => hS', ih (listed.setIfInBounds j true) a' w' (inv.set hj) (by rw [getD_set_ne true hjm]; exact hml) hfree' (ready_mono hr (Ne.symm hji)) h3.1 hS' ?_⟩
      rw [Array.setIfInBounds_comm _ _ hji]
      exact h3.2.2

inductive Pl where
  | nil
  | w (i : Nat) (s : Pl)
  | t (i : Nat) (s : Pl)
  | r (i : Nat) (s : Pl)
  | m (i : Nat) (s : Pl)
  | b (i j : Nat) (s u : Pl)
  | c (i j k : Nat) (s u v : Pl)
def Pl.len : Pl → Nat
  | .nil => 0
  | .w _ s => s.len + 1
  | .t _ s => s.len + 1
  | .r _ s => s.len + 1
  | .m _ s => s.len + 1
  | .b _ _ s _ => s.len + 1
  | .c _ _ _ s _ _ => s.len + 1
def wpPlan (P : Program) (ops : Array Oper) (Q : Exit → Act → World → Prop) (S : World → Prop) : Pl → Act → World → Prop
  | .nil, a, w => Q .normal a w
  | .w i s, a, w => ∃ o v, ops[i]? = some o ∧ YieldsIf P ops (fun _ => True) o v a ∧ wpPlan P ops Q S s (a.put o.dst v) w
  | .t i s, a, w => ∃ o v, ops[i]? = some o ∧ YieldsIf P ops S o v a ∧ wpPlan P ops Q S s (a.put o.dst v) w
  | .r i s, a, w => ∃ o, ops[i]? = some o ∧ o.guard = none ∧ o.wp P a w (fun a' w' => S w' ∧ wpPlan P ops Q S s a' w') Q
  | .m i s, a, w => ∃ o, ops[i]? = some o ∧ o.guard = none ∧ o.wp P a w (fun a' w' => wpPlan P ops Q S s a' w') Q
  | .b i j s u, a, w => (∃ o, ops[i]? = some o ∧ o.guard = none ∧ o.wp P a w (fun a' w' => S w' ∧ wpPlan P ops Q S s a' w') Q) ∧
      (∃ o, ops[j]? = some o ∧ o.guard = none ∧ o.wp P a w (fun a' w' => S w' ∧ wpPlan P ops Q S u a' w') Q)
  | .c i j k s u v, a, w => (∃ o, ops[i]? = some o ∧ o.guard = none ∧ o.wp P a w (fun a' w' => S w' ∧ wpPlan P ops Q S s a' w') Q) ∧
      (∃ o, ops[j]? = some o ∧ o.guard = none ∧ o.wp P a w (fun a' w' => S w' ∧ wpPlan P ops Q S u a' w') Q) ∧
      (∃ o, ops[k]? = some o ∧ o.guard = none ∧ o.wp P a w (fun a' w' => S w' ∧ wpPlan P ops Q S v a' w') Q)
def planOk (md : Region.Mode) (ops : Array Oper) (m : Nat) : Pl → Array Bool → Bool
  | .nil, listed => (Region.ready md ops listed).isEmpty
  | .w i s, listed => decide (i ≠ m) && (Region.ready md ops listed).contains i && Region.free md ops listed i && planOk md ops m s (listed.setIfInBounds i true)
  | .t i s, listed => decide (i ≠ m) && decide (listed.getD m true = false) && (Region.ready md ops listed).contains i && Region.free md ops listed i && ancB md ops m ops.size i && planOk md ops m s (listed.setIfInBounds i true)
  | .r i s, listed => decide (i ≠ m) && decide (listed.getD m true = false) && decide (Region.ready md ops listed = [i]) && planOk md ops m s (listed.setIfInBounds i true)
  | .m i s, listed => (decide (i = m) || decide (listed.getD m true = true)) && decide (Region.ready md ops listed = [i]) && planOk md ops m s (listed.setIfInBounds i true)
  | .b i j s u, listed => decide (i ≠ m) && decide (j ≠ m) && decide (listed.getD m true = false) && decide (s.len = u.len) && decide (Region.ready md ops listed = [i, j]) && planOk md ops m s (listed.setIfInBounds i true) && planOk md ops m u (listed.setIfInBounds j true)
  | .c i j k s u v, listed => decide (i ≠ m) && decide (j ≠ m) && decide (k ≠ m) && decide (listed.getD m true = false) && decide (s.len = u.len) && decide (s.len = v.len) && decide (Region.ready md ops listed = [i, j, k]) && planOk md ops m s (listed.setIfInBounds i true) && planOk md ops m u (listed.setIfInBounds j true) && planOk md ops m v (listed.setIfInBounds k true)

theorem wpOp_one {i : Nat} {o : Oper} {a : Act} {w : World} {K : Act → World → Prop} (ho : ops[i]? = some o) (hg : o.guard = none) (h : o.wp P a w K Q) : wpOp P ops Q i K a w := by
  unfold wpOp
  simp only [ho]
  rw [if_pos (by simp [Region.wanted, hg])]
  exact .inl h
theorem getD_set_self {listed : Array Bool} {i : Nat} (h : i < listed.size) : (listed.setIfInBounds i true).getD i true = true := by simp [h]

theorem wpP_of_plan (hsel : Region.noSelect ops = true) (hm : m < ops.size) (hQ : ∀ c (d : Option Tmp) v a w, Q (.panic c) (Act.put a d v) w → Q (.panic c) a w) :
    ∀ (s : Pl) (listed : Array Bool) (a : Act) (w : World), Cl md ops listed → planOk md ops m s listed = true → (listed.getD m true = false → S w) → wpPlan P ops Q S s a w → wpP P md ops Q S m s.len listed a w
  | .nil, listed, a, w, _, hB, _, h => ⟨by simpa [planOk] using hB, h⟩
  | .w i r, listed, a, w, inv, hB, hS, h => by
    obtain ⟨o, v, ho, hy, hK⟩ := h
    simp only [planOk, Bool.and_eq_true, decide_eq_true_eq] at hB
    obtain ⟨⟨⟨him, hr⟩, hf⟩, hB'⟩ := hB
    have hr' : i ∈ Region.ready md ops listed := by simpa using hr
    exact wpP_takeW ho (Region.noSelect_spec hsel) (fun c a w => hQ c o.dst v a w) him hm r.len listed a w inv (Region.free_spec ho hf) hr' hy hS
      (wpP_of_plan hsel hm hQ r _ _ w (inv.set hr') hB' (fun h => hS (by rwa [getD_set_ne true him] at h)) hK)
  | .t i r, listed, a, w, inv, hB, hS, h => by
    obtain ⟨o, v, ho, hy, hK⟩ := h
    simp only [planOk, Bool.and_eq_true, decide_eq_true_eq] at hB
    obtain ⟨⟨⟨⟨⟨him, hml⟩, hr⟩, hf⟩, han⟩, hB'⟩ := hB
    have hr' : i ∈ Region.ready md ops listed := by simpa using hr
    exact wpP_takeS ho (Region.noSelect_spec hsel) (fun c a w => hQ c o.dst v a w) him han r.len listed a w inv hml (Region.free_spec ho hf) hr' hy (hS hml)
      (wpP_of_plan hsel hm hQ r _ _ w (inv.set hr') hB' (fun _ => hS hml) hK)
  | .r i r, listed, a, w, inv, hB, hS, h => by
    obtain ⟨o, ho, hg, hK⟩ := h
    simp only [planOk, Bool.and_eq_true, decide_eq_true_eq] at hB
    obtain ⟨⟨⟨him, hml⟩, hr⟩, hB'⟩ := hB
    have hr' : i ∈ Region.ready md ops listed := by rw [hr]; simp
    refine ⟨fun h0 => (by rw [hr] at h0; cases h0), fun j hj => ?_⟩
    rw [hr] at hj
    have hj' : j = i := by simpa using hj
    subst hj'
    exact wpOp_one ho hg (Oper.wp_mono (fun a' w' h' => ⟨fun _ _ => h'.1, wpP_of_plan hsel hm hQ r _ a' w' (inv.set hr') hB' (fun _ => h'.1) h'.2⟩) hK)
  | .m i r, listed, a, w, inv, hB, hS, h => by
    obtain ⟨o, ho, hg, hK⟩ := h
    simp only [planOk, Bool.and_eq_true, Bool.or_eq_true, decide_eq_true_eq] at hB
    obtain ⟨⟨him, hr⟩, hB'⟩ := hB
    have hr' : i ∈ Region.ready md ops listed := by rw [hr]; simp
    refine ⟨fun h0 => (by rw [hr] at h0; cases h0), fun j hj => ?_⟩
    rw [hr] at hj
    have hj' : j = i := by simpa using hj
    subst hj'
    have hml : (listed.setIfInBounds j true).getD m true = true := by
      rcases him with e | e
      · subst e; exact getD_set_self (by rw [inv.size]; exact hm)
      · by_cases e2 : j = m
        · subst e2; exact getD_set_self (by rw [inv.size]; exact hm)
        · rw [getD_set_ne true e2]; exact e
    refine wpOp_one ho hg (Oper.wp_mono (fun a' w' h' => ⟨fun h1 h2 => ?_, wpP_of_plan hsel hm hQ r _ a' w' (inv.set hr') hB' (fun h1 => by rw [hml] at h1; cases h1) h'⟩) hK)
    rcases him with e | e
    · exact absurd e h2
    · rw [e] at h1; cases h1
  | .b i j r u, listed, a, w, inv, hB, hS, h => by
    obtain ⟨⟨o, ho, hg, hK⟩, ⟨o2, ho2, hg2, hK2⟩⟩ := h
    simp only [planOk, Bool.and_eq_true, decide_eq_true_eq] at hB
    obtain ⟨⟨⟨⟨⟨⟨him, hjm⟩, hml⟩, hlen⟩, hr⟩, hB1⟩, hB2⟩ := hB
    have hri : i ∈ Region.ready md ops listed := by rw [hr]; simp
    have hrj : j ∈ Region.ready md ops listed := by rw [hr]; simp
    refine ⟨fun h0 => (by rw [hr] at h0; cases h0), fun k hk => ?_⟩
    rw [hr] at hk
    have hk' : k = i ∨ k = j := by simpa using hk
    rcases hk' with e | e
    · subst e
      exact wpOp_one ho hg (Oper.wp_mono (fun a' w' h' => ⟨fun _ _ => h'.1, wpP_of_plan hsel hm hQ r _ a' w' (inv.set hri) hB1 (fun _ => h'.1) h'.2⟩) hK)
    · subst e
      rw [hlen]
      exact wpOp_one ho2 hg2 (Oper.wp_mono (fun a' w' h' => ⟨fun _ _ => h'.1, wpP_of_plan hsel hm hQ u _ a' w' (inv.set hrj) hB2 (fun _ => h'.1) h'.2⟩) hK2)
  | .c i j k r u v, listed, a, w, inv, hB, hS, h => by
    obtain ⟨⟨o, ho, hg, hK⟩, ⟨o2, ho2, hg2, hK2⟩, ⟨o3, ho3, hg3, hK3⟩⟩ := h
    simp only [planOk, Bool.and_eq_true, decide_eq_true_eq] at hB
    obtain ⟨⟨⟨⟨⟨⟨⟨⟨⟨him, hjm⟩, hkm⟩, hml⟩, hlen⟩, hlen2⟩, hr⟩, hB1⟩, hB2⟩, hB3⟩ := hB
    have hri : i ∈ Region.ready md ops listed := by rw [hr]; simp
    have hrj : j ∈ Region.ready md ops listed := by rw [hr]; simp
    have hrk : k ∈ Region.ready md ops listed := by rw [hr]; simp
    refine ⟨fun h0 => (by rw [hr] at h0; cases h0), fun q hk => ?_⟩
    rw [hr] at hk
    have hk' : q = i ∨ q = j ∨ q = k := by simpa using hk
    rcases hk' with e | e | e
    · subst e
      exact wpOp_one ho hg (Oper.wp_mono (fun a' w' h' => ⟨fun _ _ => h'.1, wpP_of_plan hsel hm hQ r _ a' w' (inv.set hri) hB1 (fun _ => h'.1) h'.2⟩) hK)
    · subst e
      show wpOp P ops Q _ (fun a' w' => _ ∧ wpP P md ops Q S m r.len _ a' w') a w
      rw [hlen]
      exact wpOp_one ho2 hg2 (Oper.wp_mono (fun a' w' h' => ⟨fun _ _ => h'.1, wpP_of_plan hsel hm hQ u _ a' w' (inv.set hrj) hB2 (fun _ => h'.1) h'.2⟩) hK2)
    · subst e
      show wpOp P ops Q _ (fun a' w' => _ ∧ wpP P md ops Q S m r.len _ a' w') a w
      rw [hlen2]
      exact wpOp_one ho3 hg3 (Oper.wp_mono (fun a' w' h' => ⟨fun _ _ => h'.1, wpP_of_plan hsel hm hQ v _ a' w' (inv.set hrk) hB3 (fun _ => h'.1) h'.2⟩) hK3)

def planAll (ops : Array Oper) (m : Nat) (s : Pl) : Bool :=
  Region.noSelect ops && decide (m < ops.size) && decide (s.len = ops.size) && planOk .any ops m s (Array.replicate ops.size false)
/-- THE BEGINNING -/
theorem wp_region_plan {id : Nat} {a : Act} {w : World} {l : List Oper} (S : World → Prop) (m : Nat) (s : Pl) (hm : P.follows .mixedOrders = true) (hB : planAll l.toArray m s = true)
    (hS : S w.drew) (hQ : ∀ c (d : Option Tmp) v a w, Q (.panic c) (Act.put a d v) w → Q (.panic c) a w)
    (h : wpPlan P l.toArray Q S s a w.drew) : (Code.region id l.toArray true).wp P Q a w := by
  simp only [planAll, Bool.and_eq_true, decide_eq_true_eq] at hB
  obtain ⟨⟨⟨hsel, hms⟩, hlen⟩, hseq⟩ := hB
  have inv0 : Cl .any l.toArray (Array.replicate l.toArray.size false) :=
    ⟨by simp, fun j oj _ hl => (by rw [getD_replicate_false] at hl; cases hl)⟩
  have H := wpP_of_plan (md := .any) hsel hms hQ s _ a w.drew inv0 hseq (fun _ => hS) h
  rw [hlen] at H
  exact wp_region_any hm (wpAny_of_P _ _ _ _ H)

/- the steps -/
variable {l : List Oper} {i j : Nat} {s u : Pl} {a : Act} {w : World} {o o2 : Oper}
theorem plan_end (h : Q .normal a w) : wpPlan P ops Q S .nil a w := h
theorem plan_w (ho : l[i]? = some o) (hg : o.guard = none) {v : Value} (hv : ∀ wx, (execOp a.eval o).run P wx = .ok (.value v) wx) (h : wpPlan P l.toArray Q S s (a.put o.dst v) w) : wpPlan P l.toArray Q S (.w i s) a w :=
  ⟨o, v, by simpa using ho, .inl ⟨by simp [Region.wanted, hg], fun wx _ => hv wx⟩, h⟩
theorem plan_t (ho : l[i]? = some o) (hg : o.guard = none) {v : Value} (hv : ∀ wx, S wx → (execOp a.eval o).run P wx = .ok (.value v) wx) (h : wpPlan P l.toArray Q S s (a.put o.dst v) w) : wpPlan P l.toArray Q S (.t i s) a w :=
  ⟨o, v, by simpa using ho, .inl ⟨by simp [Region.wanted, hg], hv⟩, h⟩
theorem plan_arr (ho : l[i]? = some o) (hg : o.guard = none) {ty : TypeId} {x : Operand} (hop : o.op = .load ty x) {g p : Nat} (hx : a.eval x = .pointer (some ⟨g, p, none⟩)) (cs : List Value) (hS : ∀ wx, S wx → wx.rangeAt g p cs)
    {d : TypeDesc} (hu : P.underlying ty = some d) (hd : d.isRow = true) (hi : (P.info? ty).map (·.size) = some cs.length) (h : wpPlan P l.toArray Q S s (a.put o.dst (.agg cs.toArray)) w) : wpPlan P l.toArray Q S (.t i s) a w :=
  ⟨o, _, by simpa using ho, yieldsIf_load_mid (by simp [Region.wanted, hg]) ty x hop g p hx cs d hS hu hd hi, h⟩
theorem plan_r (ho : l[i]? = some o) (hg : o.guard = none) (h : o.wp P a w (fun a' w' => S w' ∧ wpPlan P l.toArray Q S s a' w') Q) : wpPlan P l.toArray Q S (.r i s) a w :=
  ⟨o, by simpa using ho, hg, h⟩
theorem plan_m (ho : l[i]? = some o) (hg : o.guard = none) (h : o.wp P a w (fun a' w' => wpPlan P l.toArray Q S s a' w') Q) : wpPlan P l.toArray Q S (.m i s) a w :=
  ⟨o, by simpa using ho, hg, h⟩
/-- either first; what follows the region is shown once (F: found at the first way's end) -/
theorem plan_b {C F : Nat → World → Prop} (ho : l[i]? = some o) (hg : o.guard = none) (ho2 : l[j]? = some o2) (hg2 : o2.guard = none)
    (h1 : (∀ g w', C g w' → F g w') → o.wp P a w (fun a' w' => S w' ∧ wpPlan P l.toArray Q S s a' w') Q)
    (h2 : (∀ g w', C g w' → F g w') → o2.wp P a w (fun a' w' => S w' ∧ wpPlan P l.toArray Q S u a' w') Q)
    (h : ∀ g w', C g w' → F g w') : wpPlan P l.toArray Q S (.b i j s u) a w :=
  ⟨⟨o, by simpa using ho, hg, h1 h⟩, ⟨o2, by simpa using ho2, hg2, h2 h⟩⟩
/-- what follows the region is shown once: for one new block, for two -/
theorem plan_key1 {G : Prop} {C F : Nat → World → Prop} (h1 : (∀ g w', C g w' → F g w') → G) (h : ∀ g w', C g w' → F g w') : G := h1 h
theorem plan_b0 (ho : l[i]? = some o) (hg : o.guard = none) (ho2 : l[j]? = some o2) (hg2 : o2.guard = none)
    (h1 : o.wp P a w (fun a' w' => S w' ∧ wpPlan P l.toArray Q S s a' w') Q)
    (h2 : o2.wp P a w (fun a' w' => S w' ∧ wpPlan P l.toArray Q S u a' w') Q) : wpPlan P l.toArray Q S (.b i j s u) a w :=
  ⟨⟨o, by simpa using ho, hg, h1⟩, ⟨o2, by simpa using ho2, hg2, h2⟩⟩
end
end Go.Mv

/- mont: One, To, From, Add, Sub, Neg, Square, Pow, Inv, Less: at the level of the numbers that the elements stand for. -/
namespace Go.Proofs.YtemcankmggmgoaaDoor
open Go.RowKit Go.Mv Mvp
attribute [local irreducible] limbs lw mix cw cSub cAdd cMul beN laid be32 montT mstep elN
set_option maxHeartbeats 8000000 in
set_option maxRecDepth 100000 in
theorem MOne_any (m : Md) (gp : Nat) (w : World) (hok : m.Ok) (hpm : Has w gp (mdL m) 72)  :
    Calls Tryd.prog 33 #[.pointer (some ⟨gp, 0, none⟩)] w fun e w' => e = .returned (i4 (elN m 1)) ∧ Fr Nob w w' := by
  have HOK := Lib.hid hok
  have HPM := Lib.hid hpm
  clear hok hpm
  have st0 := St.start Nob w
  go_enter Tryd.func33, Tryd.ntmps33
  go_wp2_with (with_reducible refine wl_stop (o := ⟨some 2, _, _, _, _, _⟩) ?_)
  refine wl_allocS st0 rfl rfl (z := .agg #[.int .u64 0, .int .u64 0, .int .u64 0, .int .u64 0]) (by kernel_rfl) (cw 4 0) (by rw [cw_zero]; rfl) ?_
  intro g2 w1 st1
  clear st0
  go_wp2_with (with_reducible refine wl_stop (o := ⟨some 6, _, _, _, _, _⟩) ?_)
  refine wl_loadA rfl rfl Tryd.underlying42 rfl (HPM.out.keep st1.fr id) (cw 4 (B64 ^ 4 % m.M)) (md_one m) (by simp only [cw_len]; kernel_rfl) ?_
  go_wp2_with (with_reducible refine wl_stop (o := ⟨none, _, _, _, _, _⟩) ?_)
  refine wl_storeS st1 0 rfl rfl rfl rfl rfl (by first | (simp only [cw_len]; done) | (simp only [List.length_append, cw_len]; done)) (by simp only [cw_len]; kernel_rfl) (cw_one _ _) ?_
  intro w2 st2
  clear st1
  have hr := st2.at 0 rfl
  have hfr := st2.fr
  clear st2
  go_wp2_with fail
  exact bodyPost_ret (results_arr rfl rfl hr Tryd.underlying47 (by simp only [cw_len]; kernel_rfl)) rfl ⟨by rw [← el_one m]; rfl, hfr⟩

set_option maxHeartbeats 8000000 in
set_option maxRecDepth 100000 in
theorem Mint_any (a : Nat) (w : World) :
    Calls Tryd.prog 59 #[i4 a] w fun e w' => e = .returned (i4 a) ∧ Fr Nob w w' := by
  have st0 := St.start Nob w
  go_enter Tryd.func59, Tryd.ntmps59
  go_wp2_with (with_reducible refine wl_stop (o := ⟨some 1, _, _, _, _, _⟩) ?_)
  refine wl_boxS st0 rfl rfl rfl (cw 4 a) rfl ?_
  intro g1 w1 st1
  clear st0
  go_wp2_with (with_reducible refine wl_stop (o := ⟨some 2, _, _, _, _, _⟩) ?_)
  refine wl_allocS st1 rfl rfl (z := .agg #[.int .u64 0, .int .u64 0, .int .u64 0, .int .u64 0]) (by kernel_rfl) (cw 4 0) (by rw [cw_zero]; rfl) ?_
  intro g2 w2 st2
  clear st1
  go_wp2_with (with_reducible refine wl_stop (o := ⟨some 3, _, _, _, _, _⟩) ?_)
  refine wl_loadS st2 0 rfl rfl rfl Tryd.underlying47 rfl (by simp only [cw_len]; kernel_rfl) ?_
  go_wp2_with (with_reducible refine wl_stop (o := ⟨none, _, _, _, _, _⟩) ?_)
  refine wl_storeS st2 1 rfl rfl rfl rfl rfl (by first | (simp only [cw_len]; done) | (simp only [List.length_append, cw_len]; done)) (by simp only [cw_len]; kernel_rfl) (cw_one _ _) ?_
  intro w3 st3
  clear st2
  have hr := st3.at 1 rfl
  have hfr := st3.fr
  clear st3
  go_wp2_with fail
  exact bodyPost_ret (results_arr rfl rfl hr Tryd.underlying42 (by simp only [cw_len]; kernel_rfl)) rfl ⟨rfl, hfr⟩

set_option maxHeartbeats 8000000 in
set_option maxRecDepth 100000 in
theorem MLess_any (a b : Nat) (w : World) (ha : a < B64 ^ 4) (hb : b < B64 ^ 4) :
    Calls Tryd.prog 28 #[i4 a, i4 b] w fun e w' => e = .returned (.bool (decide (a < b))) ∧ Fr Nob w w' := by
  have HA := Lib.hid ha
  have HB := Lib.hid hb
  clear ha hb
  have st0 := St.start Nob w
  go_enter Tryd.func28, Tryd.ntmps28
  go_wp2_with (with_reducible refine wl_stop (o := ⟨some 2, _, _, _, _, _⟩) ?_)
  refine wl_boxS st0 rfl rfl rfl (cw 4 a) rfl ?_
  intro g2 w1 st1
  clear st0
  go_wp2_with (with_reducible refine wl_stop (o := ⟨some 3, _, _, _, _, _⟩) ?_)
  refine wl_boxS st1 rfl rfl rfl (cw 4 b) rfl ?_
  intro g3 w2 st2
  clear st1
  have HCS := Lib.hid (cSub_all a b 4 HA.out HB.out)
  go_wp2_with (with_reducible refine wl_stop (o := ⟨some 8, _, _, _, _, _⟩) ?_)
  refine wl_loadS st2 0 rfl rfl rfl Tryd.underlying42 rfl (by simp only [cw_len]; kernel_rfl) ?_
  go_wp2_with (with_reducible refine wl_stop (o := ⟨some 9, _, _, _, _, _⟩) ?_)
  refine wl_loadS st2 1 rfl rfl rfl Tryd.underlying42 rfl (by simp only [cw_len]; kernel_rfl) ?_
  go_wp2_with fail
  refine (minus_any a b _ HB.out).mono ?_
  rintro e' w3 ⟨rfl, hf3⟩
  have st3 := st2.keep hf3
  clear st2 hf3
  go_wp2_with (with_reducible refine wl_stop (o := ⟨some 5, _, _, _, _, _⟩) ?_)
  refine wl_allocS st3 rfl rfl (z := .agg #[.int .u64 0, .int .u64 0, .int .u64 0, .int .u64 0]) (by kernel_rfl) (cw 4 0) (by rw [cw_zero]; rfl) ?_
  intro g5 w4 st4
  clear st3
  go_wp2_with (with_reducible refine wl_stop (o := ⟨none, _, _, _, _, _⟩) ?_)
  refine wl_storeS st4 2 rfl rfl rfl rfl rfl (by first | (simp only [cw_len]; done) | (simp only [List.length_append, cw_len]; done)) (by simp only [cw_len]; kernel_rfl) (cw_one _ _) ?_
  intro w5 st5
  clear st4
  have hfr := st5.fr
  clear st5
  have hcs := HCS.out
  clear HCS
  by_cases hlt : a < b
  · rw [if_pos hlt] at hcs
    rw [hcs]
    have HLT := Lib.hid hlt
    clear hlt hcs
    go_wp2_with fail
    go_ret
    exact ⟨by rw [decide_eq_true HLT.out]; rfl, hfr⟩
  · rw [if_neg hlt] at hcs
    rw [hcs]
    have HLT := Lib.hid hlt
    clear hlt hcs
    go_wp2_with fail
    go_ret
    exact ⟨by rw [decide_eq_false HLT.out]; rfl, hfr⟩

set_option maxHeartbeats 8000000 in
set_option maxRecDepth 100000 in
theorem MTo_any (m : Md) (gp : Nat) (w : World) (hok : m.Ok) (hpm : Has w gp (mdL m) 72) (n : Nat) (hn : n < B64 ^ 4) :
    Calls Tryd.prog 32 #[.pointer (some ⟨gp, 0, none⟩), i4 n] w fun e w' => e = .returned (i4 (elN m n)) ∧ Fr Nob w w' := by
  have HOK := Lib.hid hok
  have HPM := Lib.hid hpm
  clear hok hpm
  have HN := Lib.hid hn
  clear hn
  have st0 := St.start Nob w
  go_enter Tryd.func32, Tryd.ntmps32
  go_wp2_with (with_reducible refine wl_stop (o := ⟨some 3, _, _, _, _, _⟩) ?_)
  refine wl_boxS st0 rfl rfl rfl (cw 4 n) rfl ?_
  intro g3 w1 st1
  clear st0
  go_wp2_with (with_reducible refine wl_stop (o := ⟨some 4, _, _, _, _, _⟩) ?_)
  refine wl_allocS st1 rfl rfl (z := .agg #[.int .u64 0, .int .u64 0, .int .u64 0, .int .u64 0]) (by kernel_rfl) (cw 4 0) (by rw [cw_zero]; rfl) ?_
  intro g4 w2 st2
  clear st1
  go_wp2_with fail
  refine wp_region_noPanic ?_
  refine wp_region_plan (fun wx => St Nob w wx [(g3, cw 4 n, 42), (g4, cw 4 0, 47)]) 7 (.w 0 (.t 1 (.w 2 (.w 3 (.w 4 (.t 5 (.r 6 (.m 7 .nil)))))))) (by kernel_rfl) (by kernel_rfl) st2.drew (fun _ _ _ _ _ h => h) ?_
  have hd2 := st2.drew
  clear st2
  refine plan_w (v := ?_) rfl rfl (fun wx => ?_) ?_
  rotate_left 1
  · (go_simp; with_reducible rfl)
  try simp only [Go.Mv.clL]
  refine plan_arr rfl rfl rfl rfl (cw 4 n) (fun wx hS => St.rangeL hS 0 rfl 0 _ (by rw [List.drop_zero, List.take_of_length_le (Nat.le_refl _)])) Tryd.underlying42 rfl (by simp only [cw_len]; kernel_rfl) ?_
  try simp only [Go.Mv.clL]
  refine plan_w (v := ?_) rfl rfl (fun wx => ?_) ?_
  rotate_left 1
  · (go_simp; with_reducible rfl)
  try simp only [Go.Mv.clL]
  refine plan_w (v := ?_) rfl rfl (fun wx => ?_) ?_
  rotate_left 1
  · (go_simp; with_reducible rfl)
  try simp only [Go.Mv.clL]
  refine plan_w (v := ?_) rfl rfl (fun wx => ?_) ?_
  rotate_left 1
  · (go_simp; with_reducible rfl)
  try simp only [Go.Mv.clL]
  refine plan_arr rfl rfl rfl rfl (cw 4 (B64 ^ 4 * B64 ^ 4 % m.M)) (fun wx hS => (HPM.out.keep (St.fr hS) id).range 9 _ (md_sq m)) Tryd.underlying42 rfl (by simp only [cw_len]; kernel_rfl) ?_
  try simp only [Go.Mv.clL]
  refine plan_r rfl rfl ?_
  go_simp
  refine (MMul_any m gp n (B64 ^ 4 * B64 ^ 4 % m.M) _ HOK.out (HPM.out.keep hd2.fr id) HN.out (Nat.mod_lt _ (by have := HOK.out.one; omega))).mono ?_
  rintro e' w3 ⟨rfl, hf3⟩
  have st3 := hd2.keep hf3
  clear hf3
  clear hd2
  refine ⟨st3, ?_⟩
  try simp only [Go.Mv.clL]
  refine plan_m rfl rfl ?_
  refine wp_storeS st3 1 rfl rfl rfl rfl (by first | (simp only [cw_len]; done) | (simp only [List.length_append, cw_len]; done)) (by simp only [cw_len]; kernel_rfl) (cw_one _ _) ?_
  intro w4 st4
  clear st3
  try simp only [Act.put]
  refine plan_end ?_
  refine NoPanic.normal ?_
  have hr := st4.at 1 rfl
  have hfr := st4.fr
  clear st4
  go_wp2_with fail
  exact bodyPost_ret (results_arr rfl rfl hr Tryd.underlying47 (by simp only [cw_len]; kernel_rfl)) rfl ⟨by rw [← el_to m HOK.out n]; rfl, hfr⟩

set_option maxHeartbeats 8000000 in
set_option maxRecDepth 100000 in
theorem MFrom_any (m : Md) (gp : Nat) (w : World) (hok : m.Ok) (hpm : Has w gp (mdL m) 72) (x : Nat) :
    Calls Tryd.prog 39 #[.pointer (some ⟨gp, 0, none⟩), i4 (elN m x)] w fun e w' => e = .returned (i4 (x % m.M)) ∧ Fr Nob w w' := by
  have HOK := Lib.hid hok
  have HPM := Lib.hid hpm
  clear hok hpm
  have hmul := fun wx (h : Has wx gp (mdL m) 72) => MMul_any m gp (elN m x) 1 wx HOK.out h (el_lt4 m HOK.out x) HOK.out.one
  rw [el_from m HOK.out x, ← small_words 1 (by decide)] at hmul
  have HMUL := Lib.hid hmul
  clear hmul
  have st0 := St.start Nob w
  go_enter Tryd.func39, Tryd.ntmps39
  go_wp2_with (with_reducible refine wl_stop (o := ⟨some 3, _, _, _, _, _⟩) ?_)
  refine wl_boxS st0 rfl rfl rfl (cw 4 (elN m x)) rfl ?_
  intro g3 w1 st1
  clear st0
  go_wp2_with (with_reducible refine wl_stop (o := ⟨some 4, _, _, _, _, _⟩) ?_)
  refine wl_allocS st1 rfl rfl (z := .agg #[.int .u64 0, .int .u64 0, .int .u64 0, .int .u64 0]) (by kernel_rfl) (cw 4 0) (by rw [cw_zero]; rfl) ?_
  intro g4 w2 st2
  clear st1
  go_wp2_with (with_reducible refine wl_stop (o := ⟨some 6, _, _, _, _, _⟩) ?_)
  refine wl_loadS st2 0 rfl rfl rfl Tryd.underlying47 rfl (by simp only [cw_len]; kernel_rfl) ?_
  go_wp2_with fail
  refine (HMUL.out _ (HPM.out.keep st2.fr id)).mono ?_
  rintro e' w3 ⟨rfl, hf3⟩
  have st3 := st2.keep hf3
  clear st2 hf3
  go_wp2_with fail
  refine (Mint_any (x % m.M) _).mono ?_
  rintro e' w4 ⟨rfl, hf4⟩
  have st4 := st3.keep hf4
  clear st3 hf4
  go_wp2_with (with_reducible refine wl_stop (o := ⟨none, _, _, _, _, _⟩) ?_)
  refine wl_storeS st4 1 rfl rfl rfl rfl rfl (by first | (simp only [cw_len]; done) | (simp only [List.length_append, cw_len]; done)) (by simp only [cw_len]; kernel_rfl) (cw_one _ _) ?_
  intro w5 st5
  clear st4
  have hr := st5.at 1 rfl
  have hfr := st5.fr
  clear st5
  go_wp2_with fail
  exact bodyPost_ret (results_arr rfl rfl hr Tryd.underlying42 (by simp only [cw_len]; kernel_rfl)) rfl ⟨rfl, hfr⟩

set_option maxHeartbeats 8000000 in
set_option maxRecDepth 100000 in
theorem MAdd_any (m : Md) (gp : Nat) (w : World) (hok : m.Ok) (hpm : Has w gp (mdL m) 72) (x y : Nat) :
    Calls Tryd.prog 67 #[.pointer (some ⟨gp, 0, none⟩), i4 (elN m x), i4 (elN m y)] w fun e w' => e = .returned (i4 (elN m (x + y))) ∧ Fr Nob w w' := by
  have HOK := Lib.hid hok
  have HPM := Lib.hid hpm
  clear hok hpm
  have hx := el_lt m HOK.out x
  have hy := el_lt m HOK.out y
  have HCA := Lib.hid (add_carry (elN m x) (elN m y) (Nat.lt_trans hx HOK.out.lt) (Nat.lt_trans hy HOK.out.lt))
  have HFIN := Lib.hid (mont_final (elN m x + elN m y) m.M HOK.out.lt (by omega))
  have H2 := Lib.hid (show (elN m x + elN m y) < 2 * B64 ^ 4 by have := HOK.out.lt; omega)
  clear hx hy
  have st0 := St.start Nob w
  go_enter Tryd.func67, Tryd.ntmps67
  go_wp2_with (with_reducible refine wl_stop (o := ⟨some 4, _, _, _, _, _⟩) ?_)
  refine wl_boxS st0 rfl rfl rfl (cw 4 (elN m x)) rfl ?_
  intro g4 w1 st1
  clear st0
  go_wp2_with (with_reducible refine wl_stop (o := ⟨some 5, _, _, _, _, _⟩) ?_)
  refine wl_boxS st1 rfl rfl rfl (cw 4 (elN m y)) rfl ?_
  intro g5 w2 st2
  clear st1
  go_wp2_with (with_reducible refine wl_stop (o := ⟨some 6, _, _, _, _, _⟩) ?_)
  refine wl_allocS st2 rfl rfl (z := .agg #[.int .u64 0, .int .u64 0, .int .u64 0, .int .u64 0]) (by kernel_rfl) (cw 4 0) (by rw [cw_zero]; rfl) ?_
  intro g6 w3 st3
  clear st2
  go_wp2_with (with_reducible refine wl_stop (o := ⟨some 12, _, _, _, _, _⟩) ?_)
  refine wl_loadS st3 0 rfl rfl rfl Tryd.underlying47 rfl (by simp only [cw_len]; kernel_rfl) ?_
  go_wp2_with (with_reducible refine wl_stop (o := ⟨some 13, _, _, _, _, _⟩) ?_)
  refine wl_loadS st3 1 rfl rfl rfl Tryd.underlying47 rfl (by simp only [cw_len]; kernel_rfl) ?_
  go_wp2_with fail
  refine (plus_any (elN m x) (elN m y) _).mono ?_
  rintro e' w4 ⟨rfl, hf4⟩
  have st4 := st3.keep hf4
  clear st3 hf4
  go_wp2_with (with_reducible refine wl_stop (o := ⟨some 7, _, _, _, _, _⟩) ?_)
  refine wl_allocS st4 rfl rfl (z := .agg #[.int .u64 0, .int .u64 0, .int .u64 0, .int .u64 0]) (by kernel_rfl) (cw 4 0) (by rw [cw_zero]; rfl) ?_
  intro g7 w5 st5
  clear st4
  go_wp2_with (with_reducible refine wl_stop (o := ⟨none, _, _, _, _, _⟩) ?_)
  refine wl_storeS st5 3 rfl rfl rfl rfl rfl (by first | (simp only [cw_len]; done) | (simp only [List.length_append, cw_len]; done)) (by simp only [cw_len]; kernel_rfl) (cw_one _ _) ?_
  intro w6 st6
  clear st5
  go_wp2_with fail
  refine wp_region_noPanic ?_
  refine wp_region_plan (fun wx => St Nob w wx [(g4, cw 4 (elN m x), 47), (g5, cw 4 (elN m y), 47), (g6, cw 4 0, 47), (g7, cw 4 (elN m x + elN m y), 42)]) 11 (.t 0 (.w 1 (.w 2 (.w 3 (.t 4 (.b 5 9 (.w 6 (.w 7 (.w 8 (.r 9 (.r 10 (.m 11 .nil)))))) (.r 5 (.w 6 (.w 7 (.w 8 (.r 10 (.m 11 .nil)))))))))))) (by kernel_rfl) (by kernel_rfl) st6.drew (fun _ _ _ _ _ h => h) ?_
  have hd6 := st6.drew
  clear st6
  refine plan_arr rfl rfl rfl rfl (cw 4 (elN m x + elN m y)) (fun wx hS => St.rangeL hS 3 rfl 0 _ (by rw [List.drop_zero, List.take_of_length_le (Nat.le_refl _)])) Tryd.underlying42 rfl (by simp only [cw_len]; kernel_rfl) ?_
  try simp only [Go.Mv.clL]
  refine plan_w (v := ?_) rfl rfl (fun wx => ?_) ?_
  rotate_left 1
  · (go_simp; with_reducible rfl)
  try simp only [Go.Mv.clL]
  refine plan_w (v := ?_) rfl rfl (fun wx => ?_) ?_
  rotate_left 1
  · (go_simp; with_reducible rfl)
  try simp only [Go.Mv.clL]
  refine plan_w (v := ?_) rfl rfl (fun wx => ?_) ?_
  rotate_left 1
  · (go_simp; with_reducible rfl)
  try simp only [Go.Mv.clL]
  refine plan_arr rfl rfl rfl rfl (cw 4 m.M) (fun wx hS => (HPM.out.keep (St.fr hS) id).range 0 _ (md_M m)) Tryd.underlying42 rfl (by simp only [cw_len]; kernel_rfl) ?_
  try simp only [Go.Mv.clL]
  refine plan_b (C := fun g9 wz => St Nob w wz [(g4, cw 4 (elN m x), 47), (g5, cw 4 (elN m y), 47), (g6, cw 4 0, 47), (g7, cw 4 (elN m x + elN m y), 42), (g9, cw 4 ((elN m x + elN m y) + B64 ^ 4 - m.M), 42)]) (F := ?_) rfl rfl rfl rfl (fun key => ?_) (fun key => ?_) ?_
  rotate_left 1
  · skip
    go_simp
    refine (minus_any (elN m x + elN m y) m.M _ HOK.out.lt).mono ?_
    rintro e' w7 ⟨rfl, hf7⟩
    have st7 := hd6.keep hf7
    clear hf7
    refine ⟨st7, ?_⟩
    try simp only [Go.Mv.clL]
    refine plan_w (v := ?_) rfl rfl (fun wx => ?_) ?_
    rotate_left 1
    · (go_simp; with_reducible rfl)
    try simp only [Go.Mv.clL]
    refine plan_w (v := ?_) rfl rfl (fun wx => ?_) ?_
    rotate_left 1
    · (go_simp; with_reducible rfl)
    try simp only [Go.Mv.clL]
    refine plan_w (v := ?_) rfl rfl (fun wx => ?_) ?_
    rotate_left 1
    · (go_simp; with_reducible rfl)
    try simp only [Go.Mv.clL]
    refine plan_r rfl rfl ?_
    refine wp_allocS st7 rfl (z := .agg #[.int .u64 0, .int .u64 0, .int .u64 0, .int .u64 0]) (by kernel_rfl) (cw 4 0) (by rw [cw_zero]; rfl) ?_
    intro g9 w8 st8
    refine ⟨St.less st8 (by simp), ?_⟩
    try simp only [Go.Mv.clL]
    refine plan_r rfl rfl ?_
    refine wp_storeS st8 4 rfl rfl rfl rfl (by first | (simp only [cw_len]; done) | (simp only [List.length_append, cw_len]; done)) (by simp only [cw_len]; kernel_rfl) (cw_one _ _) ?_
    intro w9 st9
    refine ⟨St.less st9 (by simp), ?_⟩
    try simp only [Act.put]
    refine plan_m rfl rfl ?_
    go_simp
    try simp only [Go.Mv.clL]
    refine plan_end ?_
    exact key g9 _ st9
  · skip
    refine wp_allocS hd6 rfl (z := .agg #[.int .u64 0, .int .u64 0, .int .u64 0, .int .u64 0]) (by kernel_rfl) (cw 4 0) (by rw [cw_zero]; rfl) ?_
    intro g9 w10 st10
    refine ⟨St.less st10 (by simp), ?_⟩
    try simp only [Go.Mv.clL]
    refine plan_r rfl rfl ?_
    go_simp
    refine (minus_any (elN m x + elN m y) m.M _ HOK.out.lt).mono ?_
    rintro e' w11 ⟨rfl, hf11⟩
    have st11 := st10.keep hf11
    clear hf11
    refine ⟨St.less st11 (by simp), ?_⟩
    try simp only [Go.Mv.clL]
    refine plan_w (v := ?_) rfl rfl (fun wx => ?_) ?_
    rotate_left 1
    · (go_simp; with_reducible rfl)
    try simp only [Go.Mv.clL]
    refine plan_w (v := ?_) rfl rfl (fun wx => ?_) ?_
    rotate_left 1
    · (go_simp; with_reducible rfl)
    try simp only [Go.Mv.clL]
    refine plan_w (v := ?_) rfl rfl (fun wx => ?_) ?_
    rotate_left 1
    · (go_simp; with_reducible rfl)
    try simp only [Go.Mv.clL]
    refine plan_r rfl rfl ?_
    refine wp_storeS st11 4 rfl rfl rfl rfl (by first | (simp only [cw_len]; done) | (simp only [List.length_append, cw_len]; done)) (by simp only [cw_len]; kernel_rfl) (cw_one _ _) ?_
    intro w12 st12
    refine ⟨St.less st12 (by simp), ?_⟩
    try simp only [Act.put]
    refine plan_m rfl rfl ?_
    go_simp
    try simp only [Go.Mv.clL]
    refine plan_end ?_
    exact key g9 _ st12
  intro g9 w13 st13
  have st13 : St Nob w w13 [(g4, cw 4 (elN m x), 47), (g5, cw 4 (elN m y), 47), (g6, cw 4 0, 47), (g7, cw 4 (elN m x + elN m y), 42), (g9, cw 4 ((elN m x + elN m y) + B64 ^ 4 - m.M), 42)] := st13
  clear hd6
  refine NoPanic.normal ?_
  have hca := HCA.out
  have hfin := HFIN.out
  rw [hca]
  by_cases hlt2 : (elN m x + elN m y) < m.M
  · obtain ⟨f1, f2, f3⟩ := hfin.1 hlt2
    rw [f1, f2]
    have HF := Lib.hid f3
    clear hca hfin f1 f2 f3 hlt2
    go_wp2_with (with_reducible refine wl_stop (o := ⟨some 32, _, _, _, _, _⟩) ?_)
    refine wl_loadS st13 3 rfl rfl rfl Tryd.underlying42 rfl (by simp only [cw_len]; kernel_rfl) ?_
    go_wp2_with (with_reducible refine wl_stop (o := ⟨none, _, _, _, _, _⟩) ?_)
    refine wl_storeS st13 2 rfl rfl rfl rfl rfl (by first | (simp only [cw_len]; done) | (simp only [List.length_append, cw_len]; done)) (by simp only [cw_len]; kernel_rfl) (cw_one _ _) ?_
    intro w14 st14
    clear st13
    have hr := st14.at 2 rfl
    have hfr := st14.fr
    clear st14
    go_wp2_with fail
    exact bodyPost_ret (results_arr rfl rfl hr Tryd.underlying47 (by simp only [cw_len]; kernel_rfl)) rfl ⟨by rw [← el_add]; unfold i4; rw [HF.out], hfr⟩
  · obtain ⟨f3, f4⟩ := hfin.2 hlt2
    have HF := Lib.hid f3
    by_cases hlt3 : (elN m x + elN m y) < B64 ^ 4
    · obtain ⟨f1, f2⟩ := f4 hlt3
      rw [f1, f2]
      clear hca hfin f1 f2 f3 f4 hlt2 hlt3
      go_wp2_with (with_reducible refine wl_stop (o := ⟨some 33, _, _, _, _, _⟩) ?_)
      refine wl_loadS st13 4 rfl rfl rfl Tryd.underlying42 rfl (by simp only [cw_len]; kernel_rfl) ?_
      go_wp2_with (with_reducible refine wl_stop (o := ⟨none, _, _, _, _, _⟩) ?_)
      refine wl_storeS st13 2 rfl rfl rfl rfl rfl (by first | (simp only [cw_len]; done) | (simp only [List.length_append, cw_len]; done)) (by simp only [cw_len]; kernel_rfl) (cw_one _ _) ?_
      intro w14 st14
      clear st13
      have hr := st14.at 2 rfl
      have hfr := st14.fr
      clear st14
      go_wp2_with fail
      exact bodyPost_ret (results_arr rfl rfl hr Tryd.underlying47 (by simp only [cw_len]; kernel_rfl)) rfl ⟨by rw [← el_add]; unfold i4; rw [HF.out], hfr⟩
    · have f1 := lw4_one _ H2.out hlt3
      rw [f1]
      clear hca hfin f1 f3 f4 hlt2 hlt3
      go_wp2_with (with_reducible refine wl_stop (o := ⟨some 33, _, _, _, _, _⟩) ?_)
      refine wl_loadS st13 4 rfl rfl rfl Tryd.underlying42 rfl (by simp only [cw_len]; kernel_rfl) ?_
      go_wp2_with (with_reducible refine wl_stop (o := ⟨none, _, _, _, _, _⟩) ?_)
      refine wl_storeS st13 2 rfl rfl rfl rfl rfl (by first | (simp only [cw_len]; done) | (simp only [List.length_append, cw_len]; done)) (by simp only [cw_len]; kernel_rfl) (cw_one _ _) ?_
      intro w14 st14
      clear st13
      have hr := st14.at 2 rfl
      have hfr := st14.fr
      clear st14
      go_wp2_with fail
      exact bodyPost_ret (results_arr rfl rfl hr Tryd.underlying47 (by simp only [cw_len]; kernel_rfl)) rfl ⟨by rw [← el_add]; unfold i4; rw [HF.out], hfr⟩

set_option maxHeartbeats 8000000 in
set_option maxRecDepth 100000 in
theorem MSub_any (m : Md) (gp : Nat) (w : World) (hok : m.Ok) (hpm : Has w gp (mdL m) 72) (x y : Nat) :
    Calls Tryd.prog 71 #[.pointer (some ⟨gp, 0, none⟩), i4 (elN m x), i4 (elN m y)] w fun e w' => e = .returned (i4 (elN m (x + (m.M - y % m.M)))) ∧ Fr Nob w w' := by
  have HOK := Lib.hid hok
  have HPM := Lib.hid hpm
  clear hok hpm
  have hx := el_lt m HOK.out x
  have hy := el_lt m HOK.out y
  have HY4 := Lib.hid (Nat.lt_trans hy HOK.out.lt)
  have HCS := Lib.hid (cSub_all (elN m x) (elN m y) 4 (Nat.lt_trans hx HOK.out.lt) (Nat.lt_trans hy HOK.out.lt))
  have HSA := Lib.hid (sub_words_lt (elN m x) (elN m y) m.M hx hy HOK.out.lt)
  have HSB := Lib.hid (sub_words_ge (elN m x) (elN m y) m.M hx hy)
  clear hx hy
  have st0 := St.start Nob w
  go_enter Tryd.func71, Tryd.ntmps71
  go_wp2_with (with_reducible refine wl_stop (o := ⟨some 4, _, _, _, _, _⟩) ?_)
  refine wl_boxS st0 rfl rfl rfl (cw 4 (elN m x)) rfl ?_
  intro g4 w1 st1
  clear st0
  go_wp2_with (with_reducible refine wl_stop (o := ⟨some 5, _, _, _, _, _⟩) ?_)
  refine wl_boxS st1 rfl rfl rfl (cw 4 (elN m y)) rfl ?_
  intro g5 w2 st2
  clear st1
  go_wp2_with (with_reducible refine wl_stop (o := ⟨some 6, _, _, _, _, _⟩) ?_)
  refine wl_allocS st2 rfl rfl (z := .agg #[.int .u64 0, .int .u64 0, .int .u64 0, .int .u64 0]) (by kernel_rfl) (cw 4 0) (by rw [cw_zero]; rfl) ?_
  intro g6 w3 st3
  clear st2
  go_wp2_with (with_reducible refine wl_stop (o := ⟨some 10, _, _, _, _, _⟩) ?_)
  refine wl_loadS st3 0 rfl rfl rfl Tryd.underlying47 rfl (by simp only [cw_len]; kernel_rfl) ?_
  go_wp2_with (with_reducible refine wl_stop (o := ⟨some 11, _, _, _, _, _⟩) ?_)
  refine wl_loadS st3 1 rfl rfl rfl Tryd.underlying47 rfl (by simp only [cw_len]; kernel_rfl) ?_
  go_wp2_with fail
  refine (minus_any (elN m x) (elN m y) _ HY4.out).mono ?_
  rintro e' w4 ⟨rfl, hf4⟩
  have st4 := st3.keep hf4
  clear st3 hf4
  go_wp2_with (with_reducible refine wl_stop (o := ⟨some 7, _, _, _, _, _⟩) ?_)
  refine wl_allocS st4 rfl rfl (z := .agg #[.int .u64 0, .int .u64 0, .int .u64 0, .int .u64 0]) (by kernel_rfl) (cw 4 0) (by rw [cw_zero]; rfl) ?_
  intro g7 w5 st5
  clear st4
  go_wp2_with (with_reducible refine wl_stop (o := ⟨none, _, _, _, _, _⟩) ?_)
  refine wl_storeS st5 3 rfl rfl rfl rfl rfl (by first | (simp only [cw_len]; done) | (simp only [List.length_append, cw_len]; done)) (by simp only [cw_len]; kernel_rfl) (cw_one _ _) ?_
  intro w6 st6
  clear st5
  have hcs := HCS.out
  by_cases hlt : elN m x < elN m y
  · rw [if_pos hlt] at hcs
    rw [hcs]
    have HV := Lib.hid (HSA.out hlt)
    clear hcs hlt
    go_wp2_with fail
    refine wp_region_noPanic ?_
    refine wp_region_plan (fun wx => St Nob w wx [(g4, cw 4 (elN m x), 47), (g5, cw 4 (elN m y), 47), (g6, cw 4 0, 47), (g7, cw 4 (elN m x + B64 ^ 4 - elN m y), 42)]) 9 (.t 0 (.w 1 (.w 2 (.w 3 (.t 4 (.r 5 (.w 6 (.w 7 (.w 8 (.m 9 .nil)))))))))) (by kernel_rfl) (by kernel_rfl) st6.drew (fun _ _ _ _ _ h => h) ?_
    have hd6 := st6.drew
    clear st6
    refine plan_arr rfl rfl rfl rfl (cw 4 (elN m x + B64 ^ 4 - elN m y)) (fun wx hS => St.rangeL hS 3 rfl 0 _ (by rw [List.drop_zero, List.take_of_length_le (Nat.le_refl _)])) Tryd.underlying42 rfl (by simp only [cw_len]; kernel_rfl) ?_
    try simp only [Go.Mv.clL]
    refine plan_w (v := ?_) rfl rfl (fun wx => ?_) ?_
    rotate_left 1
    · (go_simp; with_reducible rfl)
    try simp only [Go.Mv.clL]
    refine plan_w (v := ?_) rfl rfl (fun wx => ?_) ?_
    rotate_left 1
    · (go_simp; with_reducible rfl)
    try simp only [Go.Mv.clL]
    refine plan_w (v := ?_) rfl rfl (fun wx => ?_) ?_
    rotate_left 1
    · (go_simp; with_reducible rfl)
    try simp only [Go.Mv.clL]
    refine plan_arr rfl rfl rfl rfl (cw 4 m.M) (fun wx hS => (HPM.out.keep (St.fr hS) id).range 0 _ (md_M m)) Tryd.underlying42 rfl (by simp only [cw_len]; kernel_rfl) ?_
    try simp only [Go.Mv.clL]
    refine plan_r rfl rfl ?_
    go_simp
    refine (plus_any (elN m x + B64 ^ 4 - elN m y) m.M _).mono ?_
    rintro e' w7 ⟨rfl, hf7⟩
    have st7 := hd6.keep hf7
    clear hf7
    clear hd6
    refine ⟨st7, ?_⟩
    try simp only [Go.Mv.clL]
    refine plan_w (v := ?_) rfl rfl (fun wx => ?_) ?_
    rotate_left 1
    · (go_simp; with_reducible rfl)
    try simp only [Go.Mv.clL]
    refine plan_w (v := ?_) rfl rfl (fun wx => ?_) ?_
    rotate_left 1
    · (go_simp; with_reducible rfl)
    try simp only [Go.Mv.clL]
    refine plan_w (v := ?_) rfl rfl (fun wx => ?_) ?_
    rotate_left 1
    · (go_simp; with_reducible rfl)
    try simp only [Go.Mv.clL]
    refine plan_m rfl rfl ?_
    refine wp_storeS st7 3 rfl rfl rfl rfl (by first | (simp only [cw_len]; done) | (simp only [List.length_append, cw_len]; done)) (by simp only [cw_len]; kernel_rfl) (cw_one _ _) ?_
    intro w8 st8
    clear st7
    try simp only [Act.put]
    refine plan_end ?_
    refine NoPanic.normal ?_
    go_wp2_with (with_reducible refine wl_stop (o := ⟨some 26, _, _, _, _, _⟩) ?_)
    refine wl_loadS st8 3 rfl rfl rfl Tryd.underlying42 rfl (by simp only [cw_len]; kernel_rfl) ?_
    go_wp2_with (with_reducible refine wl_stop (o := ⟨none, _, _, _, _, _⟩) ?_)
    refine wl_storeS st8 2 rfl rfl rfl rfl rfl (by first | (simp only [cw_len]; done) | (simp only [List.length_append, cw_len]; done)) (by simp only [cw_len]; kernel_rfl) (cw_one _ _) ?_
    intro w9 st9
    clear st8
    have hr := st9.at 2 rfl
    have hfr := st9.fr
    clear st9
    go_wp2_with fail
    exact bodyPost_ret (results_arr rfl rfl hr Tryd.underlying47 (by simp only [cw_len]; kernel_rfl)) rfl ⟨by rw [← el_sub m HOK.out]; unfold i4; rw [← HV.out], hfr⟩
  · rw [if_neg hlt] at hcs
    rw [hcs]
    have HV := Lib.hid (HSB.out hlt)
    clear hcs hlt
    go_wp2_with (with_reducible refine wl_stop (o := ⟨some 26, _, _, _, _, _⟩) ?_)
    refine wl_loadS st6 3 rfl rfl rfl Tryd.underlying42 rfl (by simp only [cw_len]; kernel_rfl) ?_
    go_wp2_with (with_reducible refine wl_stop (o := ⟨none, _, _, _, _, _⟩) ?_)
    refine wl_storeS st6 2 rfl rfl rfl rfl rfl (by first | (simp only [cw_len]; done) | (simp only [List.length_append, cw_len]; done)) (by simp only [cw_len]; kernel_rfl) (cw_one _ _) ?_
    intro w7 st7
    clear st6
    have hr := st7.at 2 rfl
    have hfr := st7.fr
    clear st7
    go_wp2_with fail
    exact bodyPost_ret (results_arr rfl rfl hr Tryd.underlying47 (by simp only [cw_len]; kernel_rfl)) rfl ⟨by rw [← el_sub m HOK.out]; unfold i4; rw [← HV.out], hfr⟩

set_option maxHeartbeats 8000000 in
set_option maxRecDepth 100000 in
theorem MNeg_any (m : Md) (gp : Nat) (w : World) (hok : m.Ok) (hpm : Has w gp (mdL m) 72) (x : Nat) :
    Calls Tryd.prog 70 #[.pointer (some ⟨gp, 0, none⟩), i4 (elN m x)] w fun e w' => e = .returned (i4 (elN m (m.M - x % m.M))) ∧ Fr Nob w w' := by
  have HOK := Lib.hid hok
  have HPM := Lib.hid hpm
  clear hok hpm
  have hsub := fun wx (h : Has wx gp (mdL m) 72) => MSub_any m gp wx HOK.out h 0 x
  rw [el_zero m, ← small_words 0 (by decide)] at hsub
  have HSUB := Lib.hid hsub
  clear hsub
  have st0 := St.start Nob w
  go_enter Tryd.func70, Tryd.ntmps70
  go_wp2_with (with_reducible refine wl_stop (o := ⟨some 3, _, _, _, _, _⟩) ?_)
  refine wl_boxS st0 rfl rfl rfl (cw 4 (elN m x)) rfl ?_
  intro g3 w1 st1
  clear st0
  go_wp2_with (with_reducible refine wl_stop (o := ⟨some 4, _, _, _, _, _⟩) ?_)
  refine wl_allocS st1 rfl rfl (z := .agg #[.int .u64 0, .int .u64 0, .int .u64 0, .int .u64 0]) (by kernel_rfl) (cw 4 0) (by rw [cw_zero]; rfl) ?_
  intro g4 w2 st2
  clear st1
  go_wp2_with (with_reducible refine wl_stop (o := ⟨some 7, _, _, _, _, _⟩) ?_)
  refine wl_loadS st2 0 rfl rfl rfl Tryd.underlying47 rfl (by simp only [cw_len]; kernel_rfl) ?_
  go_wp2_with fail
  refine (HSUB.out _ (HPM.out.keep st2.fr id)).mono ?_
  rintro e' w3 ⟨rfl, hf3⟩
  have st3 := st2.keep hf3
  clear st2 hf3
  go_wp2_with (with_reducible refine wl_stop (o := ⟨none, _, _, _, _, _⟩) ?_)
  refine wl_storeS st3 1 rfl rfl rfl rfl rfl (by first | (simp only [cw_len]; done) | (simp only [List.length_append, cw_len]; done)) (by simp only [cw_len]; kernel_rfl) (cw_one _ _) ?_
  intro w4 st4
  clear st3
  have hr := st4.at 1 rfl
  have hfr := st4.fr
  clear st4
  go_wp2_with fail
  exact bodyPost_ret (results_arr rfl rfl hr Tryd.underlying47 (by simp only [cw_len]; kernel_rfl)) rfl ⟨rfl, hfr⟩

theorem MMulE (m : Md) (gp : Nat) (w : World) (hok : m.Ok) (hpm : Has w gp (mdL m) 72) (x y : Nat) :
    Calls Tryd.prog 40 #[.pointer (some ⟨gp, 0, none⟩), i4 (elN m x), i4 (elN m y)] w fun e w' => e = .returned (i4 (elN m (x * y))) ∧ Fr Nob w w' := by
  have h := MMul_any m gp (elN m x) (elN m y) w hok hpm (el_lt4 m hok x) (el_lt m hok y)
  rwa [el_mul m hok] at h

set_option maxHeartbeats 8000000 in
set_option maxRecDepth 100000 in
theorem MSquare_any (m : Md) (gp : Nat) (w : World) (hok : m.Ok) (hpm : Has w gp (mdL m) 72) (x : Nat) :
    Calls Tryd.prog 38 #[.pointer (some ⟨gp, 0, none⟩), i4 (elN m x)] w fun e w' => e = .returned (i4 (elN m (x * x))) ∧ Fr Nob w w' := by
  have HOK := Lib.hid hok
  have HPM := Lib.hid hpm
  clear hok hpm
  have st0 := St.start Nob w
  go_enter Tryd.func38, Tryd.ntmps38
  go_wp2_with (with_reducible refine wl_stop (o := ⟨some 3, _, _, _, _, _⟩) ?_)
  refine wl_boxS st0 rfl rfl rfl (cw 4 (elN m x)) rfl ?_
  intro g3 w1 st1
  clear st0
  go_wp2_with (with_reducible refine wl_stop (o := ⟨some 4, _, _, _, _, _⟩) ?_)
  refine wl_allocS st1 rfl rfl (z := .agg #[.int .u64 0, .int .u64 0, .int .u64 0, .int .u64 0]) (by kernel_rfl) (cw 4 0) (by rw [cw_zero]; rfl) ?_
  intro g4 w2 st2
  clear st1
  go_wp2_with (with_reducible refine wl_stop (o := ⟨some 6, _, _, _, _, _⟩) ?_)
  refine wl_loadS st2 0 rfl rfl rfl Tryd.underlying47 rfl (by simp only [cw_len]; kernel_rfl) ?_
  go_wp2_with (with_reducible refine wl_stop (o := ⟨some 7, _, _, _, _, _⟩) ?_)
  refine wl_loadS st2 0 rfl rfl rfl Tryd.underlying47 rfl (by simp only [cw_len]; kernel_rfl) ?_
  go_wp2_with fail
  refine (MMulE m gp _ HOK.out (HPM.out.keep st2.fr id) x x).mono ?_
  rintro e' w3 ⟨rfl, hf3⟩
  have st3 := st2.keep hf3
  clear st2 hf3
  go_wp2_with (with_reducible refine wl_stop (o := ⟨none, _, _, _, _, _⟩) ?_)
  refine wl_storeS st3 1 rfl rfl rfl rfl rfl (by first | (simp only [cw_len]; done) | (simp only [List.length_append, cw_len]; done)) (by simp only [cw_len]; kernel_rfl) (cw_one _ _) ?_
  intro w4 st4
  clear st3
  have hr := st4.at 1 rfl
  have hfr := st4.fr
  clear st4
  go_wp2_with fail
  exact bodyPost_ret (results_arr rfl rfl hr Tryd.underlying47 (by simp only [cw_len]; kernel_rfl)) rfl ⟨rfl, hfr⟩
end Go.Proofs.YtemcankmggmgoaaDoor

/- mont: Pow, Inv, fold, Reduce. -/
namespace Go.Proofs.YtemcankmggmgoaaDoor
open Go.RowKit Go.Mv Mvp
attribute [local irreducible] limbs lw mix cw cSub cAdd cMul beN laid be32 montT mstep elN
theorem elpow0 (m : Md) (x n i : Nat) (h : n / 2 ^ i % 2 = 0) : elN m (x ^ (n / 2 ^ (i + 1)) * x ^ (n / 2 ^ (i + 1))) = elN m (x ^ (n / 2 ^ i)) := by
  have := powm_half n i
  rw [h, Nat.two_mul, Nat.add_zero] at this
  rw [← Nat.pow_add, this]
theorem elpow1 (m : Md) (x n i : Nat) (h : n / 2 ^ i % 2 = 1) : elN m (x ^ (n / 2 ^ (i + 1)) * x ^ (n / 2 ^ (i + 1)) * x) = elN m (x ^ (n / 2 ^ i)) := by
  have := powm_half n i
  rw [h, Nat.two_mul] at this
  rw [← Nat.pow_add, ← Nat.pow_succ, this]
theorem elpow_top (m : Md) (x n : Nat) (h : n < B64 ^ 4) : elN m (x ^ (n / 2 ^ 256)) = elN m 1 := by
  rw [Nat.div_eq_of_lt (Nat.lt_of_lt_of_le h (by decide)), Nat.pow_zero]
theorem elpow_all (m : Md) (x n : Nat) : elN m (x ^ (n / 2 ^ 0)) = elN m (x ^ n) := by rw [Nat.pow_zero, Nat.div_one]
theorem eladd0 (m : Md) (n i : Nat) (h : n / 2 ^ i % 2 = 0) : elN m (n / 2 ^ (i + 1) + n / 2 ^ (i + 1)) = elN m (n / 2 ^ i) := by
  have := powm_half n i
  rw [h, Nat.two_mul, Nat.add_zero] at this
  rw [this]
theorem eladd1 (m : Md) (n i : Nat) (h : n / 2 ^ i % 2 = 1) : elN m (n / 2 ^ (i + 1) + n / 2 ^ (i + 1) + 1) = elN m (n / 2 ^ i) := by
  have := powm_half n i
  rw [h, Nat.two_mul] at this
  rw [this]

set_option maxHeartbeats 8000000 in
set_option maxRecDepth 100000 in
theorem MPow_any (m : Md) (gp : Nat) (w : World) (hok : m.Ok) (hpm : Has w gp (mdL m) 72) (x n : Nat) (hn : n < B64 ^ 4) :
    Calls Tryd.prog 58 #[.pointer (some ⟨gp, 0, none⟩), i4 (elN m x), i4 n] w fun e w' => e = .returned (i4 (elN m (x ^ n))) ∧ Fr Nob w w' := by
  have HOK := Lib.hid hok
  have HPM := Lib.hid hpm
  clear hok hpm
  have HN := Lib.hid hn
  have HTOP := Lib.hid (elpow_top m x n hn)
  clear hn
  have st0 := St.start Nob w
  go_enter Tryd.func58, Tryd.ntmps58
  go_wp2_with (with_reducible refine wl_stop (o := ⟨some 4, _, _, _, _, _⟩) ?_)
  refine wl_boxS st0 rfl rfl rfl (cw 4 (elN m x)) rfl ?_
  intro g4 w1 st1
  clear st0
  go_wp2_with (with_reducible refine wl_stop (o := ⟨some 5, _, _, _, _, _⟩) ?_)
  refine wl_boxS st1 rfl rfl rfl (cw 4 n) rfl ?_
  intro g5 w2 st2
  clear st1
  go_wp2_with (with_reducible refine wl_stop (o := ⟨some 6, _, _, _, _, _⟩) ?_)
  refine wl_allocS st2 rfl rfl (z := .agg #[.int .u64 0, .int .u64 0, .int .u64 0, .int .u64 0]) (by kernel_rfl) (cw 4 0) (by rw [cw_zero]; rfl) ?_
  intro g6 w3 st3
  clear st2
  go_wp2_with fail
  refine (MOne_any m gp _ HOK.out (HPM.out.keep st3.fr id)).mono ?_
  rintro e' w4 ⟨rfl, hf4⟩
  have st4 := st3.keep hf4
  clear st3 hf4
  go_wp2_with (with_reducible refine wl_stop (o := ⟨some 7, _, _, _, _, _⟩) ?_)
  refine wl_allocS st4 rfl rfl (z := .agg #[.int .u64 0, .int .u64 0, .int .u64 0, .int .u64 0]) (by kernel_rfl) (cw 4 0) (by rw [cw_zero]; rfl) ?_
  intro g7 w5 st5
  clear st4
  go_wp2_with (with_reducible refine wl_stop (o := ⟨none, _, _, _, _, _⟩) ?_)
  refine wl_storeS st5 3 rfl rfl rfl rfl rfl (by first | (simp only [cw_len]; done) | (simp only [List.length_append, cw_len]; done)) (by simp only [cw_len]; kernel_rfl) (cw_one _ _) ?_
  intro w6 st6
  clear st5
  go_wp2
  go_loopw [8] (fun i wr => ∃ j : Nat, j ≤ 256 ∧ i = .int .i64 ((j : Int) - 1) ∧ St Nob w wr [(g4, cw 4 (elN m x), 47), (g5, cw 4 n, 42), (g6, cw 4 0, 47), (g7, cw 4 (elN m (x ^ (n / 2 ^ j))), 47)]) (fun i _ => (intOf i + 1).toNat)
  case atStart => exact ⟨256, by omega, rfl, by rw [HTOP.out]; exact st6⟩
  case round =>
    obtain ⟨j, hj, rfl, st⟩ := hrel
    clear st6
    cases j with
    | succ i =>
      rw [show (((i + 1 : Nat) : Int)) - 1 = (i : Int) by omega]
      have hge : (0 : Int) ≤ (i : Int) := by omega
      go_wp2_with (with_reducible refine wl_stop (o := ⟨some 16, _, _, _, _, _⟩) ?_)
      refine wl_loadS st 3 rfl rfl rfl Tryd.underlying47 rfl (by simp only [cw_len]; kernel_rfl) ?_
      go_wp2_with fail
      refine (MSquare_any m gp _ HOK.out (HPM.out.keep st.fr id) (x ^ (n / 2 ^ (i + 1)))).mono ?_
      rintro e' w7 ⟨rfl, hf7⟩
      have st7 := st.keep hf7
      clear st hf7
      go_wp2_with (with_reducible refine wl_stop (o := ⟨none, _, _, _, _, _⟩) ?_)
      refine wl_storeS st7 3 rfl rfl rfl rfl rfl (by first | (simp only [cw_len]; done) | (simp only [List.length_append, cw_len]; done)) (by simp only [cw_len]; kernel_rfl) (cw_one _ _) ?_
      intro w8 st8
      clear st7
      go_wp2_with (with_reducible refine wl_stop (o := ⟨some 18, _, _, _, _, _⟩) ?_)
      refine wl_loadS st8 1 rfl rfl rfl Tryd.underlying42 rfl (by simp only [cw_len]; kernel_rfl) ?_
      go_wp2_with fail
      refine (MBit_any n i _ (by omega)).mono ?_
      rintro e' w9 ⟨rfl, hf9⟩
      have st9 := st8.keep hf9
      clear st8 hf9
      have hbt : n / 2 ^ i % 2 = 0 ∨ n / 2 ^ i % 2 = 1 := by omega
      have HS0 := Lib.hid (elpow0 m x n i)
      have HS1 := Lib.hid (elpow1 m x n i)
      generalize hbb : n / 2 ^ i % 2 = bt at *
      have HBB := Lib.hid hbb
      clear hbb
      rcases hbt with rfl | rfl
      · have hst := st9
        rw [HS0.out (by first | rfl | trivial)] at hst
        clear st9
        go_wp2
        go_roundw
        case rel => exact ⟨i, by omega, rfl, hst⟩
        case measure => simp [intOf]
      · skip
        go_wp2_with (with_reducible refine wl_stop (o := ⟨some 23, _, _, _, _, _⟩) ?_)
        refine wl_loadS st9 3 rfl rfl rfl Tryd.underlying47 rfl (by simp only [cw_len]; kernel_rfl) ?_
        go_wp2_with (with_reducible refine wl_stop (o := ⟨some 24, _, _, _, _, _⟩) ?_)
        refine wl_loadS st9 0 rfl rfl rfl Tryd.underlying47 rfl (by simp only [cw_len]; kernel_rfl) ?_
        go_wp2_with fail
        refine (MMulE m gp _ HOK.out (HPM.out.keep st9.fr id) ((x ^ (n / 2 ^ (i + 1))) * (x ^ (n / 2 ^ (i + 1)))) x).mono ?_
        rintro e' w10 ⟨rfl, hf10⟩
        have st10 := st9.keep hf10
        clear st9 hf10
        go_wp2_with (with_reducible refine wl_stop (o := ⟨none, _, _, _, _, _⟩) ?_)
        refine wl_storeS st10 3 rfl rfl rfl rfl rfl (by first | (simp only [cw_len]; done) | (simp only [List.length_append, cw_len]; done)) (by simp only [cw_len]; kernel_rfl) (cw_one _ _) ?_
        intro w11 st11
        clear st10
        have hst := st11
        rw [HS1.out (by first | rfl | trivial)] at hst
        clear st11
        go_wp2
        go_roundw
        case rel => exact ⟨i, by omega, rfl, hst⟩
        case measure => simp [intOf]
    | zero =>
      rw [show (((0 : Nat) : Int)) - 1 = -1 by omega]
      go_wp2_with (with_reducible refine wl_stop (o := ⟨some 26, _, _, _, _, _⟩) ?_)
      refine wl_loadS st 3 rfl rfl rfl Tryd.underlying47 rfl (by simp only [cw_len]; kernel_rfl) ?_
      go_wp2_with (with_reducible refine wl_stop (o := ⟨none, _, _, _, _, _⟩) ?_)
      refine wl_storeS st 2 rfl rfl rfl rfl rfl (by first | (simp only [cw_len]; done) | (simp only [List.length_append, cw_len]; done)) (by simp only [cw_len]; kernel_rfl) (cw_one _ _) ?_
      intro w7 st7
      clear st
      have hr := st7.at 2 rfl
      have hfr := st7.fr
      clear st7
      go_wp2_with fail
      exact bodyPost_ret (results_arr rfl rfl hr Tryd.underlying47 (by simp only [cw_len]; kernel_rfl)) rfl ⟨by rw [← elpow_all]; rfl, hfr⟩

set_option maxHeartbeats 8000000 in
set_option maxRecDepth 100000 in
theorem MInv_any (m : Md) (gp : Nat) (w : World) (hok : m.Ok) (hpm : Has w gp (mdL m) 72) (x : Nat) :
    Calls Tryd.prog 37 #[.pointer (some ⟨gp, 0, none⟩), i4 (elN m x)] w fun e w' => e = .returned (i4 (elN m (x ^ (m.M - 2)))) ∧ Fr Nob w w' := by
  have HOK := Lib.hid hok
  have HPM := Lib.hid hpm
  clear hok hpm
  have HM2 := Lib.hid (show m.M - 2 < B64 ^ 4 by have := HOK.out.lt; omega)
  have h2m := fun wx => minus_any m.M 2 wx (by decide)
  rw [neg_words m.M 2 (by have := HOK.out.one; omega), ← small_words 2 (by decide)] at h2m
  have H2M := Lib.hid h2m
  clear h2m
  have st0 := St.start Nob w
  go_enter Tryd.func37, Tryd.ntmps37
  go_wp2_with (with_reducible refine wl_stop (o := ⟨some 3, _, _, _, _, _⟩) ?_)
  refine wl_boxS st0 rfl rfl rfl (cw 4 (elN m x)) rfl ?_
  intro g3 w1 st1
  clear st0
  go_wp2_with (with_reducible refine wl_stop (o := ⟨some 4, _, _, _, _, _⟩) ?_)
  refine wl_allocS st1 rfl rfl (z := .agg #[.int .u64 0, .int .u64 0, .int .u64 0, .int .u64 0]) (by kernel_rfl) (cw 4 0) (by rw [cw_zero]; rfl) ?_
  intro g4 w2 st2
  clear st1
  go_wp2_with (with_reducible refine wl_stop (o := ⟨some 11, _, _, _, _, _⟩) ?_)
  refine wl_loadA rfl rfl Tryd.underlying42 rfl (HPM.out.keep st2.fr id) (cw 4 m.M) (md_M m) (by simp only [cw_len]; kernel_rfl) ?_
  go_wp2_with fail
  refine (H2M.out _).mono ?_
  rintro e' w3 ⟨rfl, hf3⟩
  have st3 := st2.keep hf3
  clear st2 hf3
  go_wp2_with (with_reducible refine wl_stop (o := ⟨some 5, _, _, _, _, _⟩) ?_)
  refine wl_allocS st3 rfl rfl (z := .agg #[.int .u64 0, .int .u64 0, .int .u64 0, .int .u64 0]) (by kernel_rfl) (cw 4 0) (by rw [cw_zero]; rfl) ?_
  intro g5 w4 st4
  clear st3
  go_wp2_with (with_reducible refine wl_stop (o := ⟨none, _, _, _, _, _⟩) ?_)
  refine wl_storeS st4 2 rfl rfl rfl rfl rfl (by first | (simp only [cw_len]; done) | (simp only [List.length_append, cw_len]; done)) (by simp only [cw_len]; kernel_rfl) (cw_one _ _) ?_
  intro w5 st5
  clear st4
  go_wp2_with (with_reducible refine wl_stop (o := ⟨some 17, _, _, _, _, _⟩) ?_)
  refine wl_loadS st5 0 rfl rfl rfl Tryd.underlying47 rfl (by simp only [cw_len]; kernel_rfl) ?_
  go_wp2_with (with_reducible refine wl_stop (o := ⟨some 18, _, _, _, _, _⟩) ?_)
  refine wl_loadS st5 2 rfl rfl rfl Tryd.underlying42 rfl (by simp only [cw_len]; kernel_rfl) ?_
  go_wp2_with fail
  refine (MPow_any m gp _ HOK.out (HPM.out.keep st5.fr id) x (m.M - 2) HM2.out).mono ?_
  rintro e' w6 ⟨rfl, hf6⟩
  have st6 := st5.keep hf6
  clear st5 hf6
  go_wp2_with (with_reducible refine wl_stop (o := ⟨none, _, _, _, _, _⟩) ?_)
  refine wl_storeS st6 1 rfl rfl rfl rfl rfl (by first | (simp only [cw_len]; done) | (simp only [List.length_append, cw_len]; done)) (by simp only [cw_len]; kernel_rfl) (cw_one _ _) ?_
  intro w7 st7
  clear st6
  have hr := st7.at 1 rfl
  have hfr := st7.fr
  clear st7
  go_wp2_with fail
  exact bodyPost_ret (results_arr rfl rfl hr Tryd.underlying47 (by simp only [cw_len]; kernel_rfl)) rfl ⟨rfl, hfr⟩

set_option maxHeartbeats 8000000 in
set_option maxRecDepth 100000 in
theorem Mfold_any (m : Md) (gp : Nat) (w : World) (hok : m.Ok) (hpm : Has w gp (mdL m) 72) (a : Option Addr) (n c : Nat) (l : List UInt8) (hb : RdB w a n l) (hn : n ≤ 32) :
    Calls Tryd.prog 66 #[.pointer (some ⟨gp, 0, none⟩), .slice a n c] w fun e w' => e = .returned (i4 (elN m (beN l))) ∧ Fr Nob w w' := by
  have HOK := Lib.hid hok
  have HPM := Lib.hid hpm
  clear hok hpm
  have HN := Lib.hid hn
  have HBB := Lib.hid hb
  have hbl := beN_le32 l (by rw [hb.len]; exact hn)
  have HBL := Lib.hid hbl
  have HTOP := Lib.hid (show elN m (beN l / 2 ^ 256) = 0 by rw [Nat.div_eq_of_lt (Nat.lt_of_lt_of_le hbl (by decide)), el_zero])
  have HALL := Lib.hid (show elN m (beN l / 2 ^ 0) = elN m (beN l) by rw [Nat.pow_zero, Nat.div_one])
  clear hb hbl
  clear hn
  have st0 := St.start Nob w
  go_enter Tryd.func66, Tryd.ntmps66
  go_wp2_with (with_reducible refine wl_stop (o := ⟨some 4, _, _, _, _, _⟩) ?_)
  refine wl_allocS st0 rfl rfl (z := .agg #[.int .u64 0, .int .u64 0, .int .u64 0, .int .u64 0]) (by kernel_rfl) (cw 4 0) (by rw [cw_zero]; rfl) ?_
  intro g4 w1 st1
  clear st0
  go_wp2_with fail
  refine (FromBytes_any a n c l _ (HBB.out.still st1.fr) HN.out).mono ?_
  rintro e' w2 ⟨rfl, hf2⟩
  have st2 := st1.keep hf2
  clear st1 hf2
  go_wp2_with (with_reducible refine wl_stop (o := ⟨some 5, _, _, _, _, _⟩) ?_)
  refine wl_allocS st2 rfl rfl (z := .agg #[.int .u64 0, .int .u64 0, .int .u64 0, .int .u64 0]) (by kernel_rfl) (cw 4 0) (by rw [cw_zero]; rfl) ?_
  intro g5 w3 st3
  clear st2
  go_wp2_with (with_reducible refine wl_stop (o := ⟨none, _, _, _, _, _⟩) ?_)
  refine wl_storeS st3 1 rfl rfl rfl rfl rfl (by first | (simp only [cw_len]; done) | (simp only [List.length_append, cw_len]; done)) (by first | (rw [cw_len]; kernel_rfl) | (simp only [List.length_append, cw_len]; kernel_rfl)) (cw_one _ _) ?_
  intro w4 st4
  clear st3
  go_wp2_with fail
  refine wp_region_noPanic ?_
  refine wp_region_plan (fun wx => St Nob w wx [(g4, cw 4 0, 47), (g5, cw 4 (beN l), 42)]) 5 (.t 0 (.w 1 (.w 2 (.w 3 (.t 4 (.m 5 .nil)))))) (by kernel_rfl) (by kernel_rfl) st4.drew (fun _ _ _ _ _ h => h) ?_
  have hd4 := st4.drew
  clear st4
  refine plan_arr rfl rfl rfl rfl (cw 4 (beN l)) (fun wx hS => St.rangeL hS 1 rfl 0 _ (by rw [List.drop_zero, List.take_of_length_le (Nat.le_refl _)])) Tryd.underlying42 rfl (by first | (rw [cw_len]; kernel_rfl) | (simp only [List.length_append, cw_len]; kernel_rfl)) ?_
  try simp only [Go.Mv.clL]
  refine plan_w (v := ?_) rfl rfl (fun wx => ?_) ?_
  rotate_left 1
  · (go_simp; with_reducible rfl)
  try simp only [Go.Mv.clL]
  refine plan_w (v := ?_) rfl rfl (fun wx => ?_) ?_
  rotate_left 1
  · (go_simp; with_reducible rfl)
  try simp only [Go.Mv.clL]
  refine plan_w (v := ?_) rfl rfl (fun wx => ?_) ?_
  rotate_left 1
  · (go_simp; with_reducible rfl)
  try simp only [Go.Mv.clL]
  refine plan_arr rfl rfl rfl rfl (cw 4 m.M) (fun wx hS => (HPM.out.keep (St.fr hS) id).range 0 _ (md_M m)) Tryd.underlying42 rfl (by first | (rw [cw_len]; kernel_rfl) | (simp only [List.length_append, cw_len]; kernel_rfl)) ?_
  try simp only [Go.Mv.clL]
  refine plan_m rfl rfl ?_
  go_simp
  refine (MLess_any (beN l) m.M _ HBL.out HOK.out.lt).mono ?_
  rintro e' w5 ⟨rfl, hf5⟩
  have st5 := hd4.keep hf5
  clear hf5
  clear hd4
  try simp only []
  refine plan_end ?_
  refine NoPanic.normal ?_
  by_cases hlt : beN l < m.M
  · have hd := decide_eq_true hlt
    have HLT := Lib.hid hlt
    rw [hd]
    clear hd hlt
    go_wp2_with (with_reducible refine wl_stop (o := ⟨some 18, _, _, _, _, _⟩) ?_)
    refine wl_loadS st5 1 rfl rfl rfl Tryd.underlying42 rfl (by first | (rw [cw_len]; kernel_rfl) | (simp only [List.length_append, cw_len]; kernel_rfl)) ?_
    go_wp2_with fail
    refine (MTo_any m gp _ HOK.out (HPM.out.keep st5.fr id) (beN l) HBL.out).mono ?_
    rintro e' w6 ⟨rfl, hf6⟩
    have st6 := st5.keep hf6
    clear st5 hf6
    go_wp2_with (with_reducible refine wl_stop (o := ⟨none, _, _, _, _, _⟩) ?_)
    refine wl_storeS st6 0 rfl rfl rfl rfl rfl (by first | (simp only [cw_len]; done) | (simp only [List.length_append, cw_len]; done)) (by first | (rw [cw_len]; kernel_rfl) | (simp only [List.length_append, cw_len]; kernel_rfl)) (cw_one _ _) ?_
    intro w7 st7
    clear st6
    have hr := st7.at 0 rfl
    have hfr := st7.fr
    clear st7
    go_wp2_with fail
    exact bodyPost_ret (results_arr rfl rfl hr Tryd.underlying47 (by first | (rw [cw_len]; kernel_rfl) | (simp only [List.length_append, cw_len]; kernel_rfl))) rfl ⟨rfl, hfr⟩
  · have hd := decide_eq_false hlt
    rw [hd]
    clear hd hlt
    go_wp2_with (with_reducible refine wl_stop (o := ⟨some 6, _, _, _, _, _⟩) ?_)
    refine wl_allocS st5 rfl rfl (z := .agg #[.int .u64 0, .int .u64 0, .int .u64 0, .int .u64 0]) (by kernel_rfl) (cw 4 0) (by rw [cw_zero]; rfl) ?_
    intro g6 w6 st6
    clear st5
    go_wp2_with fail
    refine (MOne_any m gp _ HOK.out (HPM.out.keep st6.fr id)).mono ?_
    rintro e' w7 ⟨rfl, hf7⟩
    have st7 := st6.keep hf7
    clear st6 hf7
    go_wp2_with (with_reducible refine wl_stop (o := ⟨some 7, _, _, _, _, _⟩) ?_)
    refine wl_allocS st7 rfl rfl (z := .agg #[.int .u64 0, .int .u64 0, .int .u64 0, .int .u64 0]) (by kernel_rfl) (cw 4 0) (by rw [cw_zero]; rfl) ?_
    intro g7 w8 st8
    clear st7
    go_wp2_with (with_reducible refine wl_stop (o := ⟨none, _, _, _, _, _⟩) ?_)
    refine wl_storeS st8 3 rfl rfl rfl rfl rfl (by first | (simp only [cw_len]; done) | (simp only [List.length_append, cw_len]; done)) (by first | (rw [cw_len]; kernel_rfl) | (simp only [List.length_append, cw_len]; kernel_rfl)) (cw_one _ _) ?_
    intro w9 st9
    clear st8
    go_wp2
    go_loopw [8] (fun i wr => ∃ j : Nat, j ≤ 256 ∧ i = .int .i64 ((j : Int) - 1) ∧ St Nob w wr [(g4, cw 4 0, 47), (g5, cw 4 (beN l), 42), (g6, cw 4 (elN m (beN l / 2 ^ j)), 47), (g7, cw 4 (elN m 1), 47)]) (fun i _ => (intOf i + 1).toNat)
    case atStart => exact ⟨256, by omega, rfl, by rw [HTOP.out]; exact st9⟩
    case round =>
      obtain ⟨j, hj, rfl, st⟩ := hrel
      clear st9
      cases j with
      | succ i =>
        rw [show (((i + 1 : Nat) : Int)) - 1 = (i : Int) by omega]
        have hge : (0 : Int) ≤ (i : Int) := by omega
        go_wp2_with (with_reducible refine wl_stop (o := ⟨some 27, _, _, _, _, _⟩) ?_)
        refine wl_loadS st 2 rfl rfl rfl Tryd.underlying47 rfl (by first | (rw [cw_len]; kernel_rfl) | (simp only [List.length_append, cw_len]; kernel_rfl)) ?_
        go_wp2_with (with_reducible refine wl_stop (o := ⟨some 28, _, _, _, _, _⟩) ?_)
        refine wl_loadS st 2 rfl rfl rfl Tryd.underlying47 rfl (by first | (rw [cw_len]; kernel_rfl) | (simp only [List.length_append, cw_len]; kernel_rfl)) ?_
        go_wp2_with fail
        refine (MAdd_any m gp _ HOK.out (HPM.out.keep st.fr id) (beN l / 2 ^ (i + 1)) (beN l / 2 ^ (i + 1))).mono ?_
        rintro e' w10 ⟨rfl, hf10⟩
        have st10 := st.keep hf10
        clear st hf10
        go_wp2_with (with_reducible refine wl_stop (o := ⟨none, _, _, _, _, _⟩) ?_)
        refine wl_storeS st10 2 rfl rfl rfl rfl rfl (by first | (simp only [cw_len]; done) | (simp only [List.length_append, cw_len]; done)) (by first | (rw [cw_len]; kernel_rfl) | (simp only [List.length_append, cw_len]; kernel_rfl)) (cw_one _ _) ?_
        intro w11 st11
        clear st10
        go_wp2_with (with_reducible refine wl_stop (o := ⟨some 30, _, _, _, _, _⟩) ?_)
        refine wl_loadS st11 1 rfl rfl rfl Tryd.underlying42 rfl (by first | (rw [cw_len]; kernel_rfl) | (simp only [List.length_append, cw_len]; kernel_rfl)) ?_
        go_wp2_with fail
        refine (MBit_any (beN l) i _ (by omega)).mono ?_
        rintro e' w12 ⟨rfl, hf12⟩
        have st12 := st11.keep hf12
        clear st11 hf12
        have hbt : beN l / 2 ^ i % 2 = 0 ∨ beN l / 2 ^ i % 2 = 1 := by omega
        have HS0 := Lib.hid (eladd0 m (beN l) i)
        have HS1 := Lib.hid (eladd1 m (beN l) i)
        generalize hbb : beN l / 2 ^ i % 2 = bt at *
        have HBT := Lib.hid hbb
        clear hbb
        rcases hbt with rfl | rfl
        · have hst := st12
          rw [HS0.out (by first | rfl | trivial)] at hst
          clear st12
          go_wp2
          go_roundw
          case rel => exact ⟨i, by omega, rfl, hst⟩
          case measure => simp [intOf]
        · skip
          go_wp2_with (with_reducible refine wl_stop (o := ⟨some 35, _, _, _, _, _⟩) ?_)
          refine wl_loadS st12 2 rfl rfl rfl Tryd.underlying47 rfl (by first | (rw [cw_len]; kernel_rfl) | (simp only [List.length_append, cw_len]; kernel_rfl)) ?_
          go_wp2_with (with_reducible refine wl_stop (o := ⟨some 36, _, _, _, _, _⟩) ?_)
          refine wl_loadS st12 3 rfl rfl rfl Tryd.underlying47 rfl (by first | (rw [cw_len]; kernel_rfl) | (simp only [List.length_append, cw_len]; kernel_rfl)) ?_
          go_wp2_with fail
          refine (MAdd_any m gp _ HOK.out (HPM.out.keep st12.fr id) ((beN l / 2 ^ (i + 1)) + (beN l / 2 ^ (i + 1))) 1).mono ?_
          rintro e' w13 ⟨rfl, hf13⟩
          have st13 := st12.keep hf13
          clear st12 hf13
          go_wp2_with (with_reducible refine wl_stop (o := ⟨none, _, _, _, _, _⟩) ?_)
          refine wl_storeS st13 2 rfl rfl rfl rfl rfl (by first | (simp only [cw_len]; done) | (simp only [List.length_append, cw_len]; done)) (by first | (rw [cw_len]; kernel_rfl) | (simp only [List.length_append, cw_len]; kernel_rfl)) (cw_one _ _) ?_
          intro w14 st14
          clear st13
          have hst := st14
          rw [HS1.out (by first | rfl | trivial)] at hst
          clear st14
          go_wp2
          go_roundw
          case rel => exact ⟨i, by omega, rfl, hst⟩
          case measure => simp [intOf]
      | zero =>
        rw [show (((0 : Nat) : Int)) - 1 = -1 by omega]
        go_wp2_with (with_reducible refine wl_stop (o := ⟨some 38, _, _, _, _, _⟩) ?_)
        refine wl_loadS st 2 rfl rfl rfl Tryd.underlying47 rfl (by first | (rw [cw_len]; kernel_rfl) | (simp only [List.length_append, cw_len]; kernel_rfl)) ?_
        go_wp2_with (with_reducible refine wl_stop (o := ⟨none, _, _, _, _, _⟩) ?_)
        refine wl_storeS st 0 rfl rfl rfl rfl rfl (by first | (simp only [cw_len]; done) | (simp only [List.length_append, cw_len]; done)) (by first | (rw [cw_len]; kernel_rfl) | (simp only [List.length_append, cw_len]; kernel_rfl)) (cw_one _ _) ?_
        intro w10 st10
        clear st
        have hr := st10.at 0 rfl
        have hfr := st10.fr
        clear st10
        go_wp2_with fail
        exact bodyPost_ret (results_arr rfl rfl hr Tryd.underlying47 (by first | (rw [cw_len]; kernel_rfl) | (simp only [List.length_append, cw_len]; kernel_rfl))) rfl ⟨rfl, hfr⟩
end Go.Proofs.YtemcankmggmgoaaDoor
