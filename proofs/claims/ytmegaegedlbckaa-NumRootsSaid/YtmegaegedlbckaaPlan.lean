/- A region that draws its order, by a plan: operations that only yield values are taken ahead (w: in whatever world; t: under a condition S on the world, that holds till operation m is carried out), the others are carried out when nothing else can come (r, m), or in either order (b). -/
import Derived.Test.YtmegaegedlbckaaTail3
namespace Go.Mv
open Go.RowKit
section
variable {P : Program} {ops : Array Oper} {md : Region.Mode} {Q : Exit → Act → World → Prop} {S : World → Prop} {m : Nat}

def wpP (P : Program) (md : Region.Mode) (ops : Array Oper) (Q : Exit → Act → World → Prop) (S : World → Prop) (m : Nat) : Nat → Array Bool → Act → World → Prop
  | 0, listed, a, w => Region.ready md ops listed = [] ∧ Q .normal a w
  | f + 1, listed, a, w => (Region.ready md ops listed = [] → Q .normal a w) ∧
    ∀ i ∈ Region.ready md ops listed, wpOp P ops Q i (fun a' w' => (listed.getD m true = false → i ≠ m → S w') ∧ wpP P md ops Q S m f (listed.setIfInBounds i true) a' w') a w

theorem wpAny_of_P : ∀ (f : Nat) (listed : Array Bool) (a : Act) (w : World), wpP P md ops Q S m f listed a w → wpAny P md ops Q f listed a w
  | 0, _, _, _, h => h
  | f + 1, _, _, _, h => ⟨h.1, fun i hi => wpOp_mono (fun a' w' h' => wpAny_of_P f _ a' w' h'.2) (h.2 i hi)⟩

/-- what is listed is closed -/
structure Cl (md : Region.Mode) (ops : Array Oper) (listed : Array Bool) : Prop where
  size : listed.size = ops.size
  closed : ∀ j oj, ops[j]? = some oj → listed.getD j false = true → ∀ e ∈ oj.after, Region.binds md e = true → listed.getD e.on false = true
theorem Cl.set {i : Nat} {listed : Array Bool} (inv : Cl md ops listed) (hi : i ∈ Region.ready md ops listed) : Cl md ops (listed.setIfInBounds i true) := by
  obtain ⟨_, oi, hoi, hall⟩ := mem_ready.1 hi
  refine ⟨by simp [inv.size], fun j oj hj hl e he hb => ?_⟩
  by_cases hij : i = j
  · subst hij
    have : oj = oi := Option.some.inj (hj.symm.trans hoi)
    subst this
    exact getD_set_true (hall e he hb)
  · rw [getD_set_ne false hij] at hl
    exact getD_set_true (inv.closed j oj hj hl e he hb)
/-- m waits for i, through others -/
def ancB (md : Region.Mode) (ops : Array Oper) (m : Nat) : Nat → Nat → Bool
  | 0, _ => false
  | f + 1, i => (List.range ops.size).any fun j => Region.waitsFor md ops j i && (decide (j = m) || ancB md ops m f j)
theorem anc_waits {listed : Array Bool} (inv : Cl md ops listed) : ∀ (f i : Nat), ancB md ops m f i = true → listed.getD i true = false → m ∉ Region.ready md ops listed
  | 0, i, h, _ => by cases h
  | f + 1, i, h, hun => by
    intro hr
    obtain ⟨j, hj, hj2⟩ := List.any_eq_true.1 h
    simp only [Bool.and_eq_true, Bool.or_eq_true, decide_eq_true_eq] at hj2
    obtain ⟨oj, hoj, e, he, hb, hon⟩ := Region.waitsFor_spec hj2.1
    rcases hj2.2 with rfl | hja
    · obtain ⟨-, om, hom, hall⟩ := mem_ready.1 hr
      have : oj = om := Option.some.inj (hoj.symm.trans hom)
      subst this
      have h2 := hall e he hb
      rw [hon, getD_both hun] at h2
      cases h2
    · cases hl : listed.getD j false with
      | true =>
        have h2 := inv.closed j oj hoj hl e he hb
        rw [hon, getD_both hun] at h2
        cases h2
      | false =>
        have hjs : j < listed.size := by rw [inv.size]; exact (Array.getElem?_eq_some_iff.1 hoj).1
        exact anc_waits inv f j hja (getD_in hjs hl) hr

theorem wpP_takeW {i : Nat} {oi : Oper} {v : Value} (hi : ops[i]? = some oi) (hsel : ∀ (j : Nat) (o : Oper) cs b, ops[j]? = some o → o.op ≠ .select cs b)
    (hQ : ∀ c a w, Q (.panic c) (a.put oi.dst v) w → Q (.panic c) a w) (him : i ≠ m) (hm : m < ops.size) :
    ∀ (f : Nat) (listed : Array Bool) (a : Act) (w : World), Cl md ops listed →
      (∀ j oj, ops[j]? = some oj → j ≠ i → listed.getD j true = false → (∀ e ∈ oj.after, Region.binds md e = true → e.on ≠ i) → oi.apart ops oj = true) →
      i ∈ Region.ready md ops listed → YieldsIf P ops (fun _ => True) oi v a → (listed.getD m true = false → S w) →
      wpP P md ops Q S m f (listed.setIfInBounds i true) (a.put oi.dst v) w → wpP P md ops Q S m (f + 1) listed a w := by
  intro f
  induction f with
  | zero =>
    intro listed a w inv _ hr hy hS H
    refine ⟨fun h => (by rw [h] at hr; cases hr), fun j hj => ?_⟩
    by_cases hji : j = i
    · subst hji; exact hy.wpOp hi trivial ⟨fun h _ => hS h, H⟩
    · have := ready_mono hj hji
      rw [H.1] at this
      cases this
  | succ f ih =>
    intro listed a w inv hfree hr hy hS H
    have hun := (mem_ready.1 hr).1
    refine ⟨fun h => (by rw [h] at hr; cases hr), fun j hj => ?_⟩
    by_cases hji : j = i
    · subst hji; exact hy.wpOp hi trivial ⟨fun h _ => hS h, H⟩
    · have h1 := H.2 j (ready_mono hj hji)
      obtain ⟨hjun, oj, hoj, hall⟩ := mem_ready.1 hj
      have hnot : ∀ e ∈ oj.after, Region.binds md e = true → e.on ≠ i := fun e he hb heq => by
        have h1 := hall e he hb
        rw [heq, getD_both hun] at h1
        cases h1
      have h2 := wpOp_putIf hoj (hfree j oj hoj hji hjun hnot) (fun cs b => hsel i oi cs b hi) (fun cs b => hsel j oj cs b hoj) hQ hy h1
      have hfree' : ∀ k ok, ops[k]? = some ok → k ≠ i → (listed.setIfInBounds j true).getD k true = false →
          (∀ e ∈ ok.after, Region.binds md e = true → e.on ≠ i) → oi.apart ops ok = true := fun k ok hk hki hun hno => by
        refine hfree k ok hk hki ?_ hno
        by_cases hjk : j = k
        · subst hjk; exact hjun
        · rw [getD_set_ne true hjk] at hun; exact hun
      refine wpOp_mono (fun a' w' h3 => ?_) h2
      have hS' : listed.getD m true = false → j ≠ m → S w' := fun hml hjm => h3.2.1 (by rw [getD_set_ne true him]; exact hml) hjm
      refine ⟨hS', ih (listed.setIfInBounds j true) a' w' (inv.set hj) hfree' (ready_mono hr (Ne.symm hji)) h3.1 (fun hml => ?_) ?_⟩
      · by_cases hjm : j = m
        · subst hjm
          have : (listed.setIfInBounds j true).getD j true = true := by
            have hs : j < listed.size := by rw [inv.size]; exact hm
            simp [hs]
          rw [this] at hml; cases hml
        · exact hS' (by rwa [getD_set_ne true hjm] at hml) hjm
      · rw [Array.setIfInBounds_comm _ _ hji]
        exact h3.2.2

theorem wpP_takeS {i af : Nat} {oi : Oper} {v : Value} (hi : ops[i]? = some oi) (hsel : ∀ (j : Nat) (o : Oper) cs b, ops[j]? = some o → o.op ≠ .select cs b)
    (hQ : ∀ c a w, Q (.panic c) (a.put oi.dst v) w → Q (.panic c) a w) (him : i ≠ m) (hanc : ancB md ops m af i = true) :
    ∀ (f : Nat) (listed : Array Bool) (a : Act) (w : World), Cl md ops listed → listed.getD m true = false →
      (∀ j oj, ops[j]? = some oj → j ≠ i → listed.getD j true = false → (∀ e ∈ oj.after, Region.binds md e = true → e.on ≠ i) → oi.apart ops oj = true) →
      i ∈ Region.ready md ops listed → YieldsIf P ops S oi v a → S w →
      wpP P md ops Q S m f (listed.setIfInBounds i true) (a.put oi.dst v) w → wpP P md ops Q S m (f + 1) listed a w := by
  intro f
  induction f with
  | zero =>
    intro listed a w inv _ _ hr hy hS H
    refine ⟨fun h => (by rw [h] at hr; cases hr), fun j hj => ?_⟩
    by_cases hji : j = i
    · subst hji; exact hy.wpOp hi hS ⟨fun _ _ => hS, H⟩
    · have := ready_mono hj hji
      rw [H.1] at this
      cases this
  | succ f ih =>
    intro listed a w inv hml hfree hr hy hS H
    have hun := (mem_ready.1 hr).1
    refine ⟨fun h => (by rw [h] at hr; cases hr), fun j hj => ?_⟩
    by_cases hji : j = i
    · subst hji; exact hy.wpOp hi hS ⟨fun _ _ => hS, H⟩
    · have hjm : j ≠ m := fun e => anc_waits inv af i hanc hun (e ▸ hj)
      have h1 := H.2 j (ready_mono hj hji)
      obtain ⟨hjun, oj, hoj, hall⟩ := mem_ready.1 hj
      have hnot : ∀ e ∈ oj.after, Region.binds md e = true → e.on ≠ i := fun e he hb heq => by
        have h1 := hall e he hb
        rw [heq, getD_both hun] at h1
        cases h1
      have h2 := wpOp_putIf hoj (hfree j oj hoj hji hjun hnot) (fun cs b => hsel i oi cs b hi) (fun cs b => hsel j oj cs b hoj) hQ hy h1
      have hfree' : ∀ k ok, ops[k]? = some ok → k ≠ i → (listed.setIfInBounds j true).getD k true = false →
          (∀ e ∈ ok.after, Region.binds md e = true → e.on ≠ i) → oi.apart ops ok = true := fun k ok hk hki hun hno => by
        refine hfree k ok hk hki ?_ hno
        by_cases hjk : j = k
        · subst hjk; exact hjun
        · rw [getD_set_ne true hjk] at hun; exact hun
      refine wpOp_mono (fun a' w' h3 => ?_) h2
      have hS' : S w' := h3.2.1 (by rw [getD_set_ne true him]; exact hml) hjm
      refine ⟨fun _ _ => hS', ih (listed.setIfInBounds j true) a' w' (inv.set hj) (by rw [getD_set_ne true hjm]; exact hml) hfree' (ready_mono hr (Ne.symm hji)) h3.1 hS' ?_⟩
      rw [Array.setIfInBounds_comm _ _ hji]
      exact h3.2.2

inductive Pl where
  | nil
  | w (i : Nat) (s : Pl)
  | t (i : Nat) (s : Pl)
  | r (i : Nat) (s : Pl)
  | m (i : Nat) (s : Pl)
  | b (i j : Nat) (s u : Pl)
def Pl.len : Pl → Nat
  | .nil => 0
  | .w _ s => s.len + 1
  | .t _ s => s.len + 1
  | .r _ s => s.len + 1
  | .m _ s => s.len + 1
  | .b _ _ s _ => s.len + 1
def wpPlan (P : Program) (ops : Array Oper) (Q : Exit → Act → World → Prop) (S : World → Prop) : Pl → Act → World → Prop
  | .nil, a, w => Q .normal a w
  | .w i s, a, w => ∃ o v, ops[i]? = some o ∧ YieldsIf P ops (fun _ => True) o v a ∧ wpPlan P ops Q S s (a.put o.dst v) w
  | .t i s, a, w => ∃ o v, ops[i]? = some o ∧ YieldsIf P ops S o v a ∧ wpPlan P ops Q S s (a.put o.dst v) w
  | .r i s, a, w => ∃ o, ops[i]? = some o ∧ o.guard = none ∧ o.wp P a w (fun a' w' => S w' ∧ wpPlan P ops Q S s a' w') Q
  | .m i s, a, w => ∃ o, ops[i]? = some o ∧ o.guard = none ∧ o.wp P a w (fun a' w' => wpPlan P ops Q S s a' w') Q
  | .b i j s u, a, w => (∃ o, ops[i]? = some o ∧ o.guard = none ∧ o.wp P a w (fun a' w' => S w' ∧ wpPlan P ops Q S s a' w') Q) ∧
      (∃ o, ops[j]? = some o ∧ o.guard = none ∧ o.wp P a w (fun a' w' => S w' ∧ wpPlan P ops Q S u a' w') Q)
def planOk (md : Region.Mode) (ops : Array Oper) (m : Nat) : Pl → Array Bool → Bool
  | .nil, listed => (Region.ready md ops listed).isEmpty
  | .w i s, listed => decide (i ≠ m) && (Region.ready md ops listed).contains i && Region.free md ops listed i && planOk md ops m s (listed.setIfInBounds i true)
  | .t i s, listed => decide (i ≠ m) && decide (listed.getD m true = false) && (Region.ready md ops listed).contains i && Region.free md ops listed i && ancB md ops m ops.size i && planOk md ops m s (listed.setIfInBounds i true)
  | .r i s, listed => decide (i ≠ m) && decide (listed.getD m true = false) && decide (Region.ready md ops listed = [i]) && planOk md ops m s (listed.setIfInBounds i true)
  | .m i s, listed => (decide (i = m) || decide (listed.getD m true = true)) && decide (Region.ready md ops listed = [i]) && planOk md ops m s (listed.setIfInBounds i true)
  | .b i j s u, listed => decide (i ≠ m) && decide (j ≠ m) && decide (listed.getD m true = false) && decide (s.len = u.len) && decide (Region.ready md ops listed = [i, j]) && planOk md ops m s (listed.setIfInBounds i true) && planOk md ops m u (listed.setIfInBounds j true)

theorem wpOp_one {i : Nat} {o : Oper} {a : Act} {w : World} {K : Act → World → Prop} (ho : ops[i]? = some o) (hg : o.guard = none) (h : o.wp P a w K Q) : wpOp P ops Q i K a w := by
  unfold wpOp
  simp only [ho]
  rw [if_pos (by simp [Region.wanted, hg])]
  exact .inl h
theorem getD_set_self {listed : Array Bool} {i : Nat} (h : i < listed.size) : (listed.setIfInBounds i true).getD i true = true := by simp [h]

theorem wpP_of_plan (hsel : Region.noSelect ops = true) (hm : m < ops.size) (hQ : ∀ c (d : Option Tmp) v a w, Q (.panic c) (Act.put a d v) w → Q (.panic c) a w) :
    ∀ (s : Pl) (listed : Array Bool) (a : Act) (w : World), Cl md ops listed → planOk md ops m s listed = true → (listed.getD m true = false → S w) → wpPlan P ops Q S s a w → wpP P md ops Q S m s.len listed a w
  | .nil, listed, a, w, _, hB, _, h => ⟨by simpa [planOk] using hB, h⟩
  | .w i r, listed, a, w, inv, hB, hS, h => by
    obtain ⟨o, v, ho, hy, hK⟩ := h
    simp only [planOk, Bool.and_eq_true, decide_eq_true_eq] at hB
    obtain ⟨⟨⟨him, hr⟩, hf⟩, hB'⟩ := hB
    have hr' : i ∈ Region.ready md ops listed := by simpa using hr
    exact wpP_takeW ho (Region.noSelect_spec hsel) (fun c a w => hQ c o.dst v a w) him hm r.len listed a w inv (Region.free_spec ho hf) hr' hy hS
      (wpP_of_plan hsel hm hQ r _ _ w (inv.set hr') hB' (fun h => hS (by rwa [getD_set_ne true him] at h)) hK)
  | .t i r, listed, a, w, inv, hB, hS, h => by
    obtain ⟨o, v, ho, hy, hK⟩ := h
    simp only [planOk, Bool.and_eq_true, decide_eq_true_eq] at hB
    obtain ⟨⟨⟨⟨⟨him, hml⟩, hr⟩, hf⟩, han⟩, hB'⟩ := hB
    have hr' : i ∈ Region.ready md ops listed := by simpa using hr
    exact wpP_takeS ho (Region.noSelect_spec hsel) (fun c a w => hQ c o.dst v a w) him han r.len listed a w inv hml (Region.free_spec ho hf) hr' hy (hS hml)
      (wpP_of_plan hsel hm hQ r _ _ w (inv.set hr') hB' (fun _ => hS hml) hK)
  | .r i r, listed, a, w, inv, hB, hS, h => by
    obtain ⟨o, ho, hg, hK⟩ := h
    simp only [planOk, Bool.and_eq_true, decide_eq_true_eq] at hB
    obtain ⟨⟨⟨him, hml⟩, hr⟩, hB'⟩ := hB
    have hr' : i ∈ Region.ready md ops listed := by rw [hr]; simp
    refine ⟨fun h0 => (by rw [hr] at h0; cases h0), fun j hj => ?_⟩
    rw [hr] at hj
    have hj' : j = i := by simpa using hj
    subst hj'
    exact wpOp_one ho hg (Oper.wp_mono (fun a' w' h' => ⟨fun _ _ => h'.1, wpP_of_plan hsel hm hQ r _ a' w' (inv.set hr') hB' (fun _ => h'.1) h'.2⟩) hK)
  | .m i r, listed, a, w, inv, hB, hS, h => by
    obtain ⟨o, ho, hg, hK⟩ := h
    simp only [planOk, Bool.and_eq_true, Bool.or_eq_true, decide_eq_true_eq] at hB
    obtain ⟨⟨him, hr⟩, hB'⟩ := hB
    have hr' : i ∈ Region.ready md ops listed := by rw [hr]; simp
    refine ⟨fun h0 => (by rw [hr] at h0; cases h0), fun j hj => ?_⟩
    rw [hr] at hj
    have hj' : j = i := by simpa using hj
    subst hj'
    have hml : (listed.setIfInBounds j true).getD m true = true := by
      rcases him with e | e
      · subst e; exact getD_set_self (by rw [inv.size]; exact hm)
      · by_cases e2 : j = m
        · subst e2; exact getD_set_self (by rw [inv.size]; exact hm)
        · rw [getD_set_ne true e2]; exact e
    refine wpOp_one ho hg (Oper.wp_mono (fun a' w' h' => ⟨fun h1 h2 => ?_, wpP_of_plan hsel hm hQ r _ a' w' (inv.set hr') hB' (fun h1 => by rw [hml] at h1; cases h1) h'⟩) hK)
    rcases him with e | e
    · exact absurd e h2
    · rw [e] at h1; cases h1
  | .b i j r u, listed, a, w, inv, hB, hS, h => by
    obtain ⟨⟨o, ho, hg, hK⟩, ⟨o2, ho2, hg2, hK2⟩⟩ := h
    simp only [planOk, Bool.and_eq_true, decide_eq_true_eq] at hB
    obtain ⟨⟨⟨⟨⟨⟨him, hjm⟩, hml⟩, hlen⟩, hr⟩, hB1⟩, hB2⟩ := hB
    have hri : i ∈ Region.ready md ops listed := by rw [hr]; simp
    have hrj : j ∈ Region.ready md ops listed := by rw [hr]; simp
    refine ⟨fun h0 => (by rw [hr] at h0; cases h0), fun k hk => ?_⟩
    rw [hr] at hk
    have hk' : k = i ∨ k = j := by simpa using hk
    rcases hk' with e | e
    · subst e
      exact wpOp_one ho hg (Oper.wp_mono (fun a' w' h' => ⟨fun _ _ => h'.1, wpP_of_plan hsel hm hQ r _ a' w' (inv.set hri) hB1 (fun _ => h'.1) h'.2⟩) hK)
    · subst e
      rw [hlen]
      exact wpOp_one ho2 hg2 (Oper.wp_mono (fun a' w' h' => ⟨fun _ _ => h'.1, wpP_of_plan hsel hm hQ u _ a' w' (inv.set hrj) hB2 (fun _ => h'.1) h'.2⟩) hK2)

def planAll (ops : Array Oper) (m : Nat) (s : Pl) : Bool :=
  Region.noSelect ops && decide (m < ops.size) && decide (s.len = ops.size) && planOk .any ops m s (Array.replicate ops.size false)
/-- THE BEGINNING -/
theorem wp_region_plan {id : Nat} {a : Act} {w : World} {l : List Oper} (S : World → Prop) (m : Nat) (s : Pl) (hm : P.follows .mixedOrders = true) (hB : planAll l.toArray m s = true)
    (hS : S w.drew) (hQ : ∀ c (d : Option Tmp) v a w, Q (.panic c) (Act.put a d v) w → Q (.panic c) a w)
    (h : wpPlan P l.toArray Q S s a w.drew) : (Code.region id l.toArray true).wp P Q a w := by
  simp only [planAll, Bool.and_eq_true, decide_eq_true_eq] at hB
  obtain ⟨⟨⟨hsel, hms⟩, hlen⟩, hseq⟩ := hB
  have inv0 : Cl .any l.toArray (Array.replicate l.toArray.size false) :=
    ⟨by simp, fun j oj _ hl => (by rw [getD_replicate_false] at hl; cases hl)⟩
  have H := wpP_of_plan (md := .any) hsel hms hQ s _ a w.drew inv0 hseq (fun _ => hS) h
  rw [hlen] at H
  exact wp_region_any hm (wpAny_of_P _ _ _ _ H)

/- the steps -/
variable {l : List Oper} {i j : Nat} {s u : Pl} {a : Act} {w : World} {o o2 : Oper}
theorem plan_end (h : Q .normal a w) : wpPlan P ops Q S .nil a w := h
theorem plan_w (ho : l[i]? = some o) (hg : o.guard = none) {v : Value} (hv : ∀ wx, (execOp a.eval o).run P wx = .ok (.value v) wx) (h : wpPlan P l.toArray Q S s (a.put o.dst v) w) : wpPlan P l.toArray Q S (.w i s) a w :=
  ⟨o, v, by simpa using ho, .inl ⟨by simp [Region.wanted, hg], fun wx _ => hv wx⟩, h⟩
/-- an operation whose guard is not met -/
theorem plan_skip (ho : l[i]? = some o) (hg : Region.wanted o (yielded l.toArray a.tmps) = false) (h : wpPlan P l.toArray Q S s (a.put o.dst undef) w) : wpPlan P l.toArray Q S (.w i s) a w :=
  ⟨o, undef, by simpa using ho, .inr ⟨hg, rfl⟩, h⟩
/-- an operation whose guard is met -/
theorem plan_g (ho : l[i]? = some o) (hg : Region.wanted o (yielded l.toArray a.tmps) = true) {v : Value} (hv : ∀ wx, (execOp a.eval o).run P wx = .ok (.value v) wx) (h : wpPlan P l.toArray Q S s (a.put o.dst v) w) : wpPlan P l.toArray Q S (.w i s) a w :=
  ⟨o, v, by simpa using ho, .inl ⟨hg, fun wx _ => hv wx⟩, h⟩
theorem plan_t (ho : l[i]? = some o) (hg : o.guard = none) {v : Value} (hv : ∀ wx, S wx → (execOp a.eval o).run P wx = .ok (.value v) wx) (h : wpPlan P l.toArray Q S s (a.put o.dst v) w) : wpPlan P l.toArray Q S (.t i s) a w :=
  ⟨o, v, by simpa using ho, .inl ⟨by simp [Region.wanted, hg], hv⟩, h⟩
theorem plan_arr (ho : l[i]? = some o) (hg : o.guard = none) {ty : TypeId} {x : Operand} (hop : o.op = .load ty x) {g p : Nat} (hx : a.eval x = .pointer (some ⟨g, p, none⟩)) (cs : List Value) (hS : ∀ wx, S wx → wx.rangeAt g p cs)
    {d : TypeDesc} (hu : P.underlying ty = some d) (hd : d.isRow = true) (hi : (P.info? ty).map (·.size) = some cs.length) (h : wpPlan P l.toArray Q S s (a.put o.dst (.agg cs.toArray)) w) : wpPlan P l.toArray Q S (.t i s) a w :=
  ⟨o, _, by simpa using ho, yieldsIf_load_mid (by simp [Region.wanted, hg]) ty x hop g p hx cs d hS hu hd hi, h⟩
theorem plan_r (ho : l[i]? = some o) (hg : o.guard = none) (h : o.wp P a w (fun a' w' => S w' ∧ wpPlan P l.toArray Q S s a' w') Q) : wpPlan P l.toArray Q S (.r i s) a w :=
  ⟨o, by simpa using ho, hg, h⟩
theorem plan_m (ho : l[i]? = some o) (hg : o.guard = none) (h : o.wp P a w (fun a' w' => wpPlan P l.toArray Q S s a' w') Q) : wpPlan P l.toArray Q S (.m i s) a w :=
  ⟨o, by simpa using ho, hg, h⟩
/-- either first; what follows the region is shown once (F: found at the first way's end) -/
theorem plan_b {C F : Nat → World → Prop} (ho : l[i]? = some o) (hg : o.guard = none) (ho2 : l[j]? = some o2) (hg2 : o2.guard = none)
    (h1 : (∀ g w', C g w' → F g w') → o.wp P a w (fun a' w' => S w' ∧ wpPlan P l.toArray Q S s a' w') Q)
    (h2 : (∀ g w', C g w' → F g w') → o2.wp P a w (fun a' w' => S w' ∧ wpPlan P l.toArray Q S u a' w') Q)
    (h : ∀ g w', C g w' → F g w') : wpPlan P l.toArray Q S (.b i j s u) a w :=
  ⟨⟨o, by simpa using ho, hg, h1 h⟩, ⟨o2, by simpa using ho2, hg2, h2 h⟩⟩
end
end Go.Mv
