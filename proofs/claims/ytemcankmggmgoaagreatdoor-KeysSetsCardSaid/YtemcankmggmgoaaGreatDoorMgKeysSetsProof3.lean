/- ; ; ; ; ; ; ; ; ; ; ; ; ; ; ; ; ; ; . -/
import Derived.Test.YtemcankmggmgoaaGreatDoorMgKeysSetsProof2
import Derived.Test.YtemcankmggmgoaaGreatDoorMgKeysSetsProof1
import Derived.ChangeKeysEq
import Derived.StillTailTactics
import Derived.KernelRfl
set_option maxHeartbeats 16000000
set_option maxRecDepth 1000000

namespace Go.Mv
open Go.RowKit
section
variable {P : Program} {ops : Array Oper} {md : Region.Mode} {Q : Exit → Act → World → Prop} {S : World → Prop} {m : Nat}
def wpP (P : Program) (md : Region.Mode) (ops : Array Oper) (Q : Exit → Act → World → Prop) (S : World → Prop) (m : Nat) : Nat → Array Bool → Act → World → Prop
 | 0, listed, a, w => Region.ready md ops listed = [] ∧ Q .normal a w
 | f + 1, listed, a, w => (Region.ready md ops listed = [] → Q .normal a w) ∧
  ∀ i ∈ Region.ready md ops listed, wpOp P ops Q i (fun a' w' => (listed.getD m true = false → i ≠ m → S w') ∧ wpP P md ops Q S m f (listed.setIfInBounds i true) a' w') a w
theorem e0n : ∀ (f : Nat) (listed : Array Bool) (a : Act) (w : World), wpP P md ops Q S m f listed a w → wpAny P md ops Q f listed a w
 | 0, _, _, _, h => h
 | f + 1, _, _, _, h => ⟨h.1, fun i hi => wpOp_mono (fun a' w' h' => e0n f _ a' w' h'.2) (h.2 i hi)⟩
structure Cl (md : Region.Mode) (ops : Array Oper) (listed : Array Bool) : Prop where
 size : listed.size = ops.size
 closed : ∀ j oj, ops[j]? = some oj → listed.getD j false = true → ∀ e ∈ oj.after, Region.binds md e = true → listed.getD e.on false = true
theorem Cl.set {i : Nat} {listed : Array Bool} (inv : Cl md ops listed) (hi : i ∈ Region.ready md ops listed) : Cl md ops (listed.setIfInBounds i true) := by
 obtain ⟨_, oi, hoi, hall⟩ := mem_ready.1 hi
 refine ⟨by simp [inv.size], fun j oj hj hl e he hb => ?_⟩
 by_cases hij : i = j
 ·subst hij
  have : oj = oi := Option.some.inj (hj.symm.trans hoi)
  subst this
  exact getD_set_true (hall e he hb)
 ·rw [getD_set_ne false hij] at hl
  exact getD_set_true (inv.closed j oj hj hl e he hb)
def x0F (md : Region.Mode) (ops : Array Oper) (m : Nat) : Nat → Nat → Bool
 | 0, _ => false
 | f + 1, i => (List.range ops.size).any fun j => Region.waitsFor md ops j i && (decide (j = m) || x0F md ops m f j)
theorem k0g {listed : Array Bool} (inv : Cl md ops listed) : ∀ (f i : Nat), x0F md ops m f i = true → listed.getD i true = false → m ∉ Region.ready md ops listed
 | 0, i, h, _ => by cases h
 | f + 1, i, h, hun => by
  intro hr
  obtain ⟨j, hj, hj2⟩ := List.any_eq_true.1 h
  simp only [Bool.and_eq_true, Bool.or_eq_true, decide_eq_true_eq] at hj2
  obtain ⟨oj, hoj, e, he, hb, hon⟩ := Region.waitsFor_spec hj2.1
  rcases hj2.2 with rfl | hja
  ·obtain ⟨-, om, hom, hall⟩ := mem_ready.1 hr
   have : oj = om := Option.some.inj (hoj.symm.trans hom)
   subst this
   have h2 := hall e he hb
   rw [hon, getD_both hun] at h2
   cases h2
  ·cases hl : listed.getD j false with
   | true =>
    have h2 := inv.closed j oj hoj hl e he hb
    rw [hon, getD_both hun] at h2
    cases h2
   | false =>
    have hjs : j < listed.size := by rw [inv.size]; exact (Array.getElem?_eq_some_iff.1 hoj).1
    exact k0g inv f j hja (getD_in hjs hl) hr
theorem g0K {i : Nat} {oi : Oper} {v : Value} (hi : ops[i]? = some oi) (hsel : ∀ (j : Nat) (o : Oper) cs b, ops[j]? = some o → o.op ≠ .select cs b)
  (hQ : ∀ c a w, Q (.panic c) (a.put oi.dst v) w → Q (.panic c) a w) (him : i ≠ m) (hm : m < ops.size) :
  ∀ (f : Nat) (listed : Array Bool) (a : Act) (w : World), Cl md ops listed →
   (∀ j oj, ops[j]? = some oj → j ≠ i → listed.getD j true = false → (∀ e ∈ oj.after, Region.binds md e = true → e.on ≠ i) → oi.apart ops oj = true) →
   i ∈ Region.ready md ops listed → YieldsIf P ops (fun _ => True) oi v a → (listed.getD m true = false → S w) →
   wpP P md ops Q S m f (listed.setIfInBounds i true) (a.put oi.dst v) w → wpP P md ops Q S m (f + 1) listed a w := by
 intro f
 induction f with
 | zero =>
  intro listed a w inv _ hr hy hS H
  refine ⟨fun h => (by rw [h] at hr; cases hr), fun j hj => ?_⟩
  by_cases hji : j = i
  ·subst hji; exact hy.wpOp hi trivial ⟨fun h _ => hS h, H⟩
  ·have := ready_mono hj hji
   rw [H.1] at this
   cases this
 | succ f ih =>
  intro listed a w inv hfree hr hy hS H
  have hun := (mem_ready.1 hr).1
  refine ⟨fun h => (by rw [h] at hr; cases hr), fun j hj => ?_⟩
  by_cases hji : j = i
  ·subst hji; exact hy.wpOp hi trivial ⟨fun h _ => hS h, H⟩
  ·have h1 := H.2 j (ready_mono hj hji)
   obtain ⟨hjun, oj, hoj, hall⟩ := mem_ready.1 hj
   have hnot : ∀ e ∈ oj.after, Region.binds md e = true → e.on ≠ i := fun e he hb heq => by
    have h1 := hall e he hb
    rw [heq, getD_both hun] at h1
    cases h1
   have h2 := wpOp_putIf hoj (hfree j oj hoj hji hjun hnot) (fun cs b => hsel i oi cs b hi) (fun cs b => hsel j oj cs b hoj) hQ hy h1
   have hfree' : ∀ k ok, ops[k]? = some ok → k ≠ i → (listed.setIfInBounds j true).getD k true = false →
     (∀ e ∈ ok.after, Region.binds md e = true → e.on ≠ i) → oi.apart ops ok = true := fun k ok hk hki hun hno => by
    refine hfree k ok hk hki ?_ hno
    by_cases hjk : j = k
    ·subst hjk; exact hjun
    ·rw [getD_set_ne true hjk] at hun; exact hun
   refine wpOp_mono (fun a' w' h3 => ?_) h2
   have hS' : listed.getD m true = false → j ≠ m → S w' := fun hml hjm => h3.2.1 (by rw [getD_set_ne true him]; exact hml) hjm
   refine ⟨hS', ih (listed.setIfInBounds j true) a' w' (inv.set hj) hfree' (ready_mono hr (Ne.symm hji)) h3.1 (fun hml => ?_) ?_⟩
   ·by_cases hjm : j = m
    ·subst hjm
     have : (listed.setIfInBounds j true).getD j true = true := by
      have hs : j < listed.size := by rw [inv.size]; exact hm
      simp [hs]
     rw [this] at hml; cases hml
    ·exact hS' (by rwa [getD_set_ne true hjm] at hml) hjm
   ·rw [Array.setIfInBounds_comm _ _ hji]
    exact h3.2.2
theorem g0L {i af : Nat} {oi : Oper} {v : Value} (hi : ops[i]? = some oi) (hsel : ∀ (j : Nat) (o : Oper) cs b, ops[j]? = some o → o.op ≠ .select cs b)
  (hQ : ∀ c a w, Q (.panic c) (a.put oi.dst v) w → Q (.panic c) a w) (him : i ≠ m) (hanc : x0F md ops m af i = true) :
  ∀ (f : Nat) (listed : Array Bool) (a : Act) (w : World), Cl md ops listed → listed.getD m true = false →
   (∀ j oj, ops[j]? = some oj → j ≠ i → listed.getD j true = false → (∀ e ∈ oj.after, Region.binds md e = true → e.on ≠ i) → oi.apart ops oj = true) →
   i ∈ Region.ready md ops listed → YieldsIf P ops S oi v a → S w →
   wpP P md ops Q S m f (listed.setIfInBounds i true) (a.put oi.dst v) w → wpP P md ops Q S m (f + 1) listed a w := by
 intro f
 induction f with
 | zero =>
  intro listed a w inv _ _ hr hy hS H
  refine ⟨fun h => (by rw [h] at hr; cases hr), fun j hj => ?_⟩
  by_cases hji : j = i
  ·subst hji; exact hy.wpOp hi hS ⟨fun _ _ => hS, H⟩
  ·have := ready_mono hj hji
   rw [H.1] at this
   cases this
 | succ f ih =>
  intro listed a w inv hml hfree hr hy hS H
  have hun := (mem_ready.1 hr).1
  refine ⟨fun h => (by rw [h] at hr; cases hr), fun j hj => ?_⟩
  by_cases hji : j = i
  ·subst hji; exact hy.wpOp hi hS ⟨fun _ _ => hS, H⟩
  ·have hjm : j ≠ m := fun e => k0g inv af i hanc hun (e ▸ hj)
   have h1 := H.2 j (ready_mono hj hji)
   obtain ⟨hjun, oj, hoj, hall⟩ := mem_ready.1 hj
   have hnot : ∀ e ∈ oj.after, Region.binds md e = true → e.on ≠ i := fun e he hb heq => by
    have h1 := hall e he hb
    rw [heq, getD_both hun] at h1
    cases h1
   have h2 := wpOp_putIf hoj (hfree j oj hoj hji hjun hnot) (fun cs b => hsel i oi cs b hi) (fun cs b => hsel j oj cs b hoj) hQ hy h1
   have hfree' : ∀ k ok, ops[k]? = some ok → k ≠ i → (listed.setIfInBounds j true).getD k true = false →
     (∀ e ∈ ok.after, Region.binds md e = true → e.on ≠ i) → oi.apart ops ok = true := fun k ok hk hki hun hno => by
    refine hfree k ok hk hki ?_ hno
    by_cases hjk : j = k
    ·subst hjk; exact hjun
    ·rw [getD_set_ne true hjk] at hun; exact hun
   refine wpOp_mono (fun a' w' h3 => ?_) h2
   have hS' : S w' := h3.2.1 (by rw [getD_set_ne true him]; exact hml) hjm
   refine ⟨fun _ _ => hS', ih (listed.setIfInBounds j true) a' w' (inv.set hj) (by rw [getD_set_ne true hjm]; exact hml) hfree' (ready_mono hr (Ne.symm hji)) h3.1 hS' ?_⟩
   rw [Array.setIfInBounds_comm _ _ hji]
   exact h3.2.2
inductive Pl where
 | nil
 | w (i : Nat) (s : Pl)
 | t (i : Nat) (s : Pl)
 | r (i : Nat) (s : Pl)
 | m (i : Nat) (s : Pl)
 | b (i j : Nat) (s u : Pl)
 | c (i j k : Nat) (s u v : Pl)
def Pl.len : Pl → Nat
 | .nil => 0
 | .w _ s => s.len + 1
 | .t _ s => s.len + 1
 | .r _ s => s.len + 1
 | .m _ s => s.len + 1
 | .b _ _ s _ => s.len + 1
 | .c _ _ _ s _ _ => s.len + 1
def b0p (P : Program) (ops : Array Oper) (Q : Exit → Act → World → Prop) (S : World → Prop) : Pl → Act → World → Prop
 | .nil, a, w => Q .normal a w
 | .w i s, a, w => ∃ o v, ops[i]? = some o ∧ YieldsIf P ops (fun _ => True) o v a ∧ b0p P ops Q S s (a.put o.dst v) w
 | .t i s, a, w => ∃ o v, ops[i]? = some o ∧ YieldsIf P ops S o v a ∧ b0p P ops Q S s (a.put o.dst v) w
 | .r i s, a, w => ∃ o, ops[i]? = some o ∧ o.guard = none ∧ o.wp P a w (fun a' w' => S w' ∧ b0p P ops Q S s a' w') Q
 | .m i s, a, w => ∃ o, ops[i]? = some o ∧ o.guard = none ∧ o.wp P a w (fun a' w' => b0p P ops Q S s a' w') Q
 | .b i j s u, a, w => (∃ o, ops[i]? = some o ∧ o.guard = none ∧ o.wp P a w (fun a' w' => S w' ∧ b0p P ops Q S s a' w') Q) ∧
   (∃ o, ops[j]? = some o ∧ o.guard = none ∧ o.wp P a w (fun a' w' => S w' ∧ b0p P ops Q S u a' w') Q)
 | .c i j k s u v, a, w => (∃ o, ops[i]? = some o ∧ o.guard = none ∧ o.wp P a w (fun a' w' => S w' ∧ b0p P ops Q S s a' w') Q) ∧
   (∃ o, ops[j]? = some o ∧ o.guard = none ∧ o.wp P a w (fun a' w' => S w' ∧ b0p P ops Q S u a' w') Q) ∧
   (∃ o, ops[k]? = some o ∧ o.guard = none ∧ o.wp P a w (fun a' w' => S w' ∧ b0p P ops Q S v a' w') Q)
def b0I (md : Region.Mode) (ops : Array Oper) (m : Nat) : Pl → Array Bool → Bool
 | .nil, listed => (Region.ready md ops listed).isEmpty
 | .w i s, listed => decide (i ≠ m) && (Region.ready md ops listed).contains i && Region.free md ops listed i && b0I md ops m s (listed.setIfInBounds i true)
 | .t i s, listed => decide (i ≠ m) && decide (listed.getD m true = false) && (Region.ready md ops listed).contains i && Region.free md ops listed i && x0F md ops m ops.size i && b0I md ops m s (listed.setIfInBounds i true)
 | .r i s, listed => decide (i ≠ m) && decide (listed.getD m true = false) && decide (Region.ready md ops listed = [i]) && b0I md ops m s (listed.setIfInBounds i true)
 | .m i s, listed => (decide (i = m) || decide (listed.getD m true = true)) && decide (Region.ready md ops listed = [i]) && b0I md ops m s (listed.setIfInBounds i true)
 | .b i j s u, listed => decide (i ≠ m) && decide (j ≠ m) && decide (listed.getD m true = false) && decide (s.len = u.len) && decide (Region.ready md ops listed = [i, j]) && b0I md ops m s (listed.setIfInBounds i true) && b0I md ops m u (listed.setIfInBounds j true)
 | .c i j k s u v, listed => decide (i ≠ m) && decide (j ≠ m) && decide (k ≠ m) && decide (listed.getD m true = false) && decide (s.len = u.len) && decide (s.len = v.len) && decide (Region.ready md ops listed = [i, j, k]) && b0I md ops m s (listed.setIfInBounds i true) && b0I md ops m u (listed.setIfInBounds j true) && b0I md ops m v (listed.setIfInBounds k true)
theorem c0O {i : Nat} {o : Oper} {a : Act} {w : World} {K : Act → World → Prop} (ho : ops[i]? = some o) (hg : o.guard = none) (h : o.wp P a w K Q) : wpOp P ops Q i K a w := by
 unfold wpOp
 simp only [ho]
 rw [if_pos (by simp [Region.wanted, hg])]
 exact .inl h
theorem b0u {listed : Array Bool} {i : Nat} (h : i < listed.size) : (listed.setIfInBounds i true).getD i true = true := by simp [h]
theorem b0h (hsel : Region.noSelect ops = true) (hm : m < ops.size) (hQ : ∀ c (d : Option Tmp) v a w, Q (.panic c) (Act.put a d v) w → Q (.panic c) a w) :
  ∀ (s : Pl) (listed : Array Bool) (a : Act) (w : World), Cl md ops listed → b0I md ops m s listed = true → (listed.getD m true = false → S w) → b0p P ops Q S s a w → wpP P md ops Q S m s.len listed a w
 | .nil, listed, a, w, _, hB, _, h => ⟨by simpa [b0I] using hB, h⟩
 | .w i r, listed, a, w, inv, hB, hS, h => by
  obtain ⟨o, v, ho, hy, hK⟩ := h
  simp only [b0I, Bool.and_eq_true, decide_eq_true_eq] at hB
  obtain ⟨⟨⟨him, hr⟩, hf⟩, hB'⟩ := hB
  have hr' : i ∈ Region.ready md ops listed := by simpa using hr
  exact g0K ho (Region.noSelect_spec hsel) (fun c a w => hQ c o.dst v a w) him hm r.len listed a w inv (Region.free_spec ho hf) hr' hy hS
   (b0h hsel hm hQ r _ _ w (inv.set hr') hB' (fun h => hS (by rwa [getD_set_ne true him] at h)) hK)
 | .t i r, listed, a, w, inv, hB, hS, h => by
  obtain ⟨o, v, ho, hy, hK⟩ := h
  simp only [b0I, Bool.and_eq_true, decide_eq_true_eq] at hB
  obtain ⟨⟨⟨⟨⟨him, hml⟩, hr⟩, hf⟩, han⟩, hB'⟩ := hB
  have hr' : i ∈ Region.ready md ops listed := by simpa using hr
  exact g0L ho (Region.noSelect_spec hsel) (fun c a w => hQ c o.dst v a w) him han r.len listed a w inv hml (Region.free_spec ho hf) hr' hy (hS hml)
   (b0h hsel hm hQ r _ _ w (inv.set hr') hB' (fun _ => hS hml) hK)
 | .r i r, listed, a, w, inv, hB, hS, h => by
  obtain ⟨o, ho, hg, hK⟩ := h
  simp only [b0I, Bool.and_eq_true, decide_eq_true_eq] at hB
  obtain ⟨⟨⟨him, hml⟩, hr⟩, hB'⟩ := hB
  have hr' : i ∈ Region.ready md ops listed := by rw [hr]; simp
  refine ⟨fun h0 => (by rw [hr] at h0; cases h0), fun j hj => ?_⟩
  rw [hr] at hj
  have hj' : j = i := by simpa using hj
  subst hj'
  exact c0O ho hg (Oper.wp_mono (fun a' w' h' => ⟨fun _ _ => h'.1, b0h hsel hm hQ r _ a' w' (inv.set hr') hB' (fun _ => h'.1) h'.2⟩) hK)
 | .m i r, listed, a, w, inv, hB, hS, h => by
  obtain ⟨o, ho, hg, hK⟩ := h
  simp only [b0I, Bool.and_eq_true, Bool.or_eq_true, decide_eq_true_eq] at hB
  obtain ⟨⟨him, hr⟩, hB'⟩ := hB
  have hr' : i ∈ Region.ready md ops listed := by rw [hr]; simp
  refine ⟨fun h0 => (by rw [hr] at h0; cases h0), fun j hj => ?_⟩
  rw [hr] at hj
  have hj' : j = i := by simpa using hj
  subst hj'
  have hml : (listed.setIfInBounds j true).getD m true = true := by
   rcases him with e | e
   ·subst e; exact b0u (by rw [inv.size]; exact hm)
   ·by_cases e2 : j = m
    ·subst e2; exact b0u (by rw [inv.size]; exact hm)
    ·rw [getD_set_ne true e2]; exact e
  refine c0O ho hg (Oper.wp_mono (fun a' w' h' => ⟨fun h1 h2 => ?_, b0h hsel hm hQ r _ a' w' (inv.set hr') hB' (fun h1 => by rw [hml] at h1; cases h1) h'⟩) hK)
  rcases him with e | e
  ·exact absurd e h2
  ·rw [e] at h1; cases h1
 | .b i j r u, listed, a, w, inv, hB, hS, h => by
  obtain ⟨⟨o, ho, hg, hK⟩, ⟨o2, ho2, hg2, hK2⟩⟩ := h
  simp only [b0I, Bool.and_eq_true, decide_eq_true_eq] at hB
  obtain ⟨⟨⟨⟨⟨⟨him, hjm⟩, hml⟩, hlen⟩, hr⟩, hB1⟩, hB2⟩ := hB
  have hri : i ∈ Region.ready md ops listed := by rw [hr]; simp
  have hrj : j ∈ Region.ready md ops listed := by rw [hr]; simp
  refine ⟨fun h0 => (by rw [hr] at h0; cases h0), fun k hk => ?_⟩
  rw [hr] at hk
  have hk' : k = i ∨ k = j := by simpa using hk
  rcases hk' with e | e
  ·subst e
   exact c0O ho hg (Oper.wp_mono (fun a' w' h' => ⟨fun _ _ => h'.1, b0h hsel hm hQ r _ a' w' (inv.set hri) hB1 (fun _ => h'.1) h'.2⟩) hK)
  ·subst e
   rw [hlen]
   exact c0O ho2 hg2 (Oper.wp_mono (fun a' w' h' => ⟨fun _ _ => h'.1, b0h hsel hm hQ u _ a' w' (inv.set hrj) hB2 (fun _ => h'.1) h'.2⟩) hK2)
 | .c i j k r u v, listed, a, w, inv, hB, hS, h => by
  obtain ⟨⟨o, ho, hg, hK⟩, ⟨o2, ho2, hg2, hK2⟩, ⟨o3, ho3, hg3, hK3⟩⟩ := h
  simp only [b0I, Bool.and_eq_true, decide_eq_true_eq] at hB
  obtain ⟨⟨⟨⟨⟨⟨⟨⟨⟨him, hjm⟩, hkm⟩, hml⟩, hlen⟩, hlen2⟩, hr⟩, hB1⟩, hB2⟩, hB3⟩ := hB
  have hri : i ∈ Region.ready md ops listed := by rw [hr]; simp
  have hrj : j ∈ Region.ready md ops listed := by rw [hr]; simp
  have hrk : k ∈ Region.ready md ops listed := by rw [hr]; simp
  refine ⟨fun h0 => (by rw [hr] at h0; cases h0), fun q hk => ?_⟩
  rw [hr] at hk
  have hk' : q = i ∨ q = j ∨ q = k := by simpa using hk
  rcases hk' with e | e | e
  ·subst e
   exact c0O ho hg (Oper.wp_mono (fun a' w' h' => ⟨fun _ _ => h'.1, b0h hsel hm hQ r _ a' w' (inv.set hri) hB1 (fun _ => h'.1) h'.2⟩) hK)
  ·subst e
   show wpOp P ops Q _ (fun a' w' => _ ∧ wpP P md ops Q S m r.len _ a' w') a w
   rw [hlen]
   exact c0O ho2 hg2 (Oper.wp_mono (fun a' w' h' => ⟨fun _ _ => h'.1, b0h hsel hm hQ u _ a' w' (inv.set hrj) hB2 (fun _ => h'.1) h'.2⟩) hK2)
  ·subst e
   show wpOp P ops Q _ (fun a' w' => _ ∧ wpP P md ops Q S m r.len _ a' w') a w
   rw [hlen2]
   exact c0O ho3 hg3 (Oper.wp_mono (fun a' w' h' => ⟨fun _ _ => h'.1, b0h hsel hm hQ v _ a' w' (inv.set hrk) hB3 (fun _ => h'.1) h'.2⟩) hK3)
def i0Y (ops : Array Oper) (m : Nat) (s : Pl) : Bool :=
 Region.noSelect ops && decide (m < ops.size) && decide (s.len = ops.size) && b0I .any ops m s (Array.replicate ops.size false)
theorem a0p {id : Nat} {a : Act} {w : World} {l : List Oper} (S : World → Prop) (m : Nat) (s : Pl) (hm : P.follows .mixedOrders = true) (hB : i0Y l.toArray m s = true)
  (hS : S w.drew) (hQ : ∀ c (d : Option Tmp) v a w, Q (.panic c) (Act.put a d v) w → Q (.panic c) a w)
  (h : b0p P l.toArray Q S s a w.drew) : (Code.region id l.toArray true).wp P Q a w := by
 simp only [i0Y, Bool.and_eq_true, decide_eq_true_eq] at hB
 obtain ⟨⟨⟨hsel, hms⟩, hlen⟩, hseq⟩ := hB
 have inv0 : Cl .any l.toArray (Array.replicate l.toArray.size false) :=
  ⟨by simp, fun j oj _ hl => (by rw [getD_replicate_false] at hl; cases hl)⟩
 have H := b0h (md := .any) hsel hms hQ s _ a w.drew inv0 hseq (fun _ => hS) h
 rw [hlen] at H
 exact wp_region_any hm (e0n _ _ _ _ H)
variable {l : List Oper} {i j : Nat} {s u : Pl} {a : Act} {w : World} {o o2 : Oper}
theorem a0k (h : Q .normal a w) : b0p P ops Q S .nil a w := h
theorem a0l (ho : l[i]? = some o) (hg : o.guard = none) {v : Value} (hv : ∀ wx, (execOp a.eval o).run P wx = .ok (.value v) wx) (h : b0p P l.toArray Q S s (a.put o.dst v) w) : b0p P l.toArray Q S (.w i s) a w :=
 ⟨o, v, by simpa using ho, .inl ⟨by simp [Region.wanted, hg], fun wx _ => hv wx⟩, h⟩
theorem d0i (ho : l[i]? = some o) (hg : o.guard = none) {v : Value} (hv : ∀ wx, S wx → (execOp a.eval o).run P wx = .ok (.value v) wx) (h : b0p P l.toArray Q S s (a.put o.dst v) w) : b0p P l.toArray Q S (.t i s) a w :=
 ⟨o, v, by simpa using ho, .inl ⟨by simp [Region.wanted, hg], hv⟩, h⟩
theorem a0s (ho : l[i]? = some o) (hg : o.guard = none) {ty : TypeId} {x : Operand} (hop : o.op = .load ty x) {g p : Nat} (hx : a.eval x = .pointer (some ⟨g, p, none⟩)) (cs : List Value) (hS : ∀ wx, S wx → wx.rangeAt g p cs)
  {d : TypeDesc} (hu : P.underlying ty = some d) (hd : d.isRow = true) (hi : (P.info? ty).map (·.size) = some cs.length) (h : b0p P l.toArray Q S s (a.put o.dst (.agg cs.toArray)) w) : b0p P l.toArray Q S (.t i s) a w :=
 ⟨o, _, by simpa using ho, yieldsIf_load_mid (by simp [Region.wanted, hg]) ty x hop g p hx cs d hS hu hd hi, h⟩
theorem a0A (ho : l[i]? = some o) (hg : o.guard = none) (h : o.wp P a w (fun a' w' => S w' ∧ b0p P l.toArray Q S s a' w') Q) : b0p P l.toArray Q S (.r i s) a w :=
 ⟨o, by simpa using ho, hg, h⟩
theorem a0r (ho : l[i]? = some o) (hg : o.guard = none) (h : o.wp P a w (fun a' w' => b0p P l.toArray Q S s a' w') Q) : b0p P l.toArray Q S (.m i s) a w :=
 ⟨o, by simpa using ho, hg, h⟩
theorem x0G {C F : Nat → World → Prop} (ho : l[i]? = some o) (hg : o.guard = none) (ho2 : l[j]? = some o2) (hg2 : o2.guard = none)
  (h1 : (∀ g w', C g w' → F g w') → o.wp P a w (fun a' w' => S w' ∧ b0p P l.toArray Q S s a' w') Q)
  (h2 : (∀ g w', C g w' → F g w') → o2.wp P a w (fun a' w' => S w' ∧ b0p P l.toArray Q S u a' w') Q)
  (h : ∀ g w', C g w' → F g w') : b0p P l.toArray Q S (.b i j s u) a w :=
 ⟨⟨o, by simpa using ho, hg, h1 h⟩, ⟨o2, by simpa using ho2, hg2, h2 h⟩⟩
theorem d0v {G : Prop} {C F : Nat → World → Prop} (h1 : (∀ g w', C g w' → F g w') → G) (h : ∀ g w', C g w' → F g w') : G := h1 h
theorem c0V (ho : l[i]? = some o) (hg : o.guard = none) (ho2 : l[j]? = some o2) (hg2 : o2.guard = none)
  (h1 : o.wp P a w (fun a' w' => S w' ∧ b0p P l.toArray Q S s a' w') Q)
  (h2 : o2.wp P a w (fun a' w' => S w' ∧ b0p P l.toArray Q S u a' w') Q) : b0p P l.toArray Q S (.b i j s u) a w :=
 ⟨⟨o, by simpa using ho, hg, h1⟩, ⟨o2, by simpa using ho2, hg2, h2⟩⟩
end
end Go.Mv
namespace Go.Proofs.YtemcankmggmgoaaGreatDoor
section
open Go.RowKit Go.Mv Mvp
attribute [local irreducible] a0J lw mix cw b0t b0G b0q a0P a0u beN laid b0o b0H a0M a0V elN
theorem d0M (m : Md) (gp : Nat) (w : World) (hok : m.Ok) (hpm : Has w gp (mdL m) 115)  :
  Calls Tryz.prog 71 #[.pointer (some ⟨gp, 0, none⟩)] w fun e w' => e = .returned (i4 (elN m 1)) ∧ Fr Nob w w' := by
 have HOK := qH hok
 have HPM := qH hpm
 clear hok hpm
 have st0 := St.start Nob w
 go_enter Tryz.func71, Tryz.ntmps71
 go_wp2_with (with_reducible refine wSk 2 ?_)
 refine a0b st0 rfl rfl (z := zAd) (by kernel_rfl) (cw 4 0) (by rw [a0f]; rfl) ?_
 intro g2 w1 st1
 clear st0
 go_wp2_with (with_reducible refine wSk 6 ?_)
 refine b0E rfl rfl Tryz.underlying72 rfl (HPM.out.keep st1.fr id) (cw 4 (B64 ^ 4 % m.M)) (x0x m) (by simp only [a0a]; kernel_rfl) ?_
 go_wp2_with (with_reducible refine wSn ?_)
 refine a0d st1 0 rfl rfl rfl rfl rfl (by first | (simp only [a0a]; done) | (simp only [List.length_append, a0a]; done)) (by simp only [a0a]; kernel_rfl) (a0i _ _) ?_
 intro w2 st2
 clear st1
 have hr := st2.at 0 rfl
 have hfr := st2.fr
 clear st2
 go_wp2_with fail
 exact bodyPost_ret (a0q rfl rfl hr Tryz.underlying59 (by simp only [a0a]; kernel_rfl)) rfl ⟨by rw [← x0B m]; rfl, hfr⟩
theorem s0L (a : Nat) (w : World) :
  Calls Tryz.prog 91 #[i4 a] w fun e w' => e = .returned (i4 a) ∧ Fr Nob w w' := by
 have st0 := St.start Nob w
 go_enter Tryz.func91, Tryz.ntmps91
 go_wp2_with (with_reducible refine wSk 1 ?_)
 refine a0m st0 rfl rfl rfl (cw 4 a) rfl ?_
 intro g1 w1 st1
 clear st0
 go_wp2_with (with_reducible refine wSk 2 ?_)
 refine a0b st1 rfl rfl (z := zAd) (by kernel_rfl) (cw 4 0) (by rw [a0f]; rfl) ?_
 intro g2 w2 st2
 clear st1
 go_wp2_with (with_reducible refine wSk 3 ?_)
 refine a0h st2 0 rfl rfl rfl Tryz.underlying59 rfl (by simp only [a0a]; kernel_rfl) ?_
 go_wp2_with (with_reducible refine wSn ?_)
 refine a0d st2 1 rfl rfl rfl rfl rfl (by first | (simp only [a0a]; done) | (simp only [List.length_append, a0a]; done)) (by simp only [a0a]; kernel_rfl) (a0i _ _) ?_
 intro w3 st3
 clear st2
 have hr := st3.at 1 rfl
 have hfr := st3.fr
 clear st3
 go_wp2_with fail
 exact bodyPost_ret (a0q rfl rfl hr Tryz.underlying72 (by simp only [a0a]; kernel_rfl)) rfl ⟨rfl, hfr⟩
theorem k0h (a b : Nat) (w : World) (ha : a < B64 ^ 4) (hb : b < B64 ^ 4) :
  Calls Tryz.prog 68 #[i4 a, i4 b] w fun e w' => e = .returned (.bool (decide (a < b))) ∧ Fr Nob w w' := by
 have HA := qH ha
 have HB := qH hb
 clear ha hb
 have st0 := St.start Nob w
 go_enter Tryz.func68, Tryz.ntmps68
 go_wp2_with (with_reducible refine wSk 2 ?_)
 refine a0m st0 rfl rfl rfl (cw 4 a) rfl ?_
 intro g2 w1 st1
 clear st0
 go_wp2_with (with_reducible refine wSk 3 ?_)
 refine a0m st1 rfl rfl rfl (cw 4 b) rfl ?_
 intro g3 w2 st2
 clear st1
 have HCS := qH (e0m a b 4 HA.out HB.out)
 go_wp2_with (with_reducible refine wSk 8 ?_)
 refine a0h st2 0 rfl rfl rfl Tryz.underlying72 rfl (by simp only [a0a]; kernel_rfl) ?_
 go_wp2_with (with_reducible refine wSk 9 ?_)
 refine a0h st2 1 rfl rfl rfl Tryz.underlying72 rfl (by simp only [a0a]; kernel_rfl) ?_
 go_wp2_with fail
 refine (c0T a b _ HB.out).mono ?_
 rintro e' w3 ⟨rfl, hf3⟩
 have st3 := st2.keep hf3
 clear st2 hf3
 go_wp2_with (with_reducible refine wSk 5 ?_)
 refine a0b st3 rfl rfl (z := zAd) (by kernel_rfl) (cw 4 0) (by rw [a0f]; rfl) ?_
 intro g5 w4 st4
 clear st3
 go_wp2_with (with_reducible refine wSn ?_)
 refine a0d st4 2 rfl rfl rfl rfl rfl (by first | (simp only [a0a]; done) | (simp only [List.length_append, a0a]; done)) (by simp only [a0a]; kernel_rfl) (a0i _ _) ?_
 intro w5 st5
 clear st4
 have hfr := st5.fr
 clear st5
 have hcs := HCS.out
 clear HCS
 by_cases hlt : a < b
 ·rw [if_pos hlt] at hcs
  rw [hcs]
  have HLT := qH hlt
  clear hlt hcs
  go_wp2_with fail
  go_ret
  exact ⟨by rw [decide_eq_true HLT.out]; rfl, hfr⟩
 ·rw [if_neg hlt] at hcs
  rw [hcs]
  have HLT := qH hlt
  clear hlt hcs
  go_wp2_with fail
  go_ret
  exact ⟨by rw [decide_eq_false HLT.out]; rfl, hfr⟩
theorem d0N (m : Md) (gp : Nat) (w : World) (hok : m.Ok) (hpm : Has w gp (mdL m) 115) (n : Nat) (hn : n < B64 ^ 4) :
  Calls Tryz.prog 54 #[.pointer (some ⟨gp, 0, none⟩), i4 n] w fun e w' => e = .returned (i4 (elN m n)) ∧ Fr Nob w w' := by
 have HOK := qH hok
 have HPM := qH hpm
 clear hok hpm
 have HN := qH hn
 clear hn
 have st0 := St.start Nob w
 go_enter Tryz.func54, Tryz.ntmps54
 go_wp2_with (with_reducible refine wSk 3 ?_)
 refine a0m st0 rfl rfl rfl (cw 4 n) rfl ?_
 intro g3 w1 st1
 clear st0
 go_wp2_with (with_reducible refine wSk 4 ?_)
 refine a0b st1 rfl rfl (z := zAd) (by kernel_rfl) (cw 4 0) (by rw [a0f]; rfl) ?_
 intro g4 w2 st2
 clear st1
 go_wp2_with fail
 refine wp_region_noPanic ?_
 refine a0p (fun wx => St Nob w wx [(g3, cw 4 n, 72), (g4, cw 4 0, 59)]) 7 (.w 0 (.t 1 (.w 2 (.w 3 (.w 4 (.t 5 (.r 6 (.m 7 .nil)))))))) (by kernel_rfl) (by kernel_rfl) st2.drew (fun _ _ _ _ _ h => h) ?_
 have hd2 := st2.drew
 clear st2
 refine a0l (v := ?_) rfl rfl (fun wx => ?_) ?_
 rotate_left 1
 ·(go_simp; with_reducible rfl)
 try simp only [clL]
 refine a0s rfl rfl rfl rfl (cw 4 n) (fun wx hS => St.rangeL hS 0 rfl 0 _ dZl) Tryz.underlying72 rfl (by simp only [a0a]; kernel_rfl) ?_
 try simp only [clL]
 refine a0l (v := ?_) rfl rfl (fun wx => ?_) ?_
 rotate_left 1
 ·(go_simp; with_reducible rfl)
 try simp only [clL]
 refine a0l (v := ?_) rfl rfl (fun wx => ?_) ?_
 rotate_left 1
 ·(go_simp; with_reducible rfl)
 try simp only [clL]
 refine a0l (v := ?_) rfl rfl (fun wx => ?_) ?_
 rotate_left 1
 ·(go_simp; with_reducible rfl)
 try simp only [clL]
 refine a0s rfl rfl rfl rfl (cw 4 (B64 ^ 4 * B64 ^ 4 % m.M)) (fun wx hS => (HPM.out.keep (St.fr hS) id).range 9 _ (x0y m)) Tryz.underlying72 rfl (by simp only [a0a]; kernel_rfl) ?_
 try simp only [clL]
 refine a0A rfl rfl ?_
 go_simp
 refine (g0f m gp n (B64 ^ 4 * B64 ^ 4 % m.M) _ HOK.out (HPM.out.keep hd2.fr id) HN.out (Nat.mod_lt _ (by have := HOK.out.one; omega))).mono ?_
 rintro e' w3 ⟨rfl, hf3⟩
 have st3 := hd2.keep hf3
 clear hf3
 clear hd2
 refine ⟨st3, ?_⟩
 try simp only [clL]
 refine a0r rfl rfl ?_
 refine a0j st3 1 rfl rfl rfl rfl (by first | (simp only [a0a]; done) | (simp only [List.length_append, a0a]; done)) (by simp only [a0a]; kernel_rfl) (a0i _ _) ?_
 intro w4 st4
 clear st3
 try simp only [Act.put]
 refine a0k ?_
 refine NoPanic.normal ?_
 have hr := st4.at 1 rfl
 have hfr := st4.fr
 clear st4
 go_wp2_with fail
 exact bodyPost_ret (a0q rfl rfl hr Tryz.underlying59 (by simp only [a0a]; kernel_rfl)) rfl ⟨by rw [← x0D m HOK.out n]; rfl, hfr⟩
theorem e0e (m : Md) (gp : Nat) (w : World) (hok : m.Ok) (hpm : Has w gp (mdL m) 115) (x : Nat) :
  Calls Tryz.prog 58 #[.pointer (some ⟨gp, 0, none⟩), i4 (elN m x)] w fun e w' => e = .returned (i4 (x % m.M)) ∧ Fr Nob w w' := by
 have HOK := qH hok
 have HPM := qH hpm
 clear hok hpm
 have hmul := fun wx (h : Has wx gp (mdL m) 115) => g0f m gp (elN m x) 1 wx HOK.out h (k0d m HOK.out x) HOK.out.one
 rw [l0N m HOK.out x, ← b0g 1 (by decide)] at hmul
 have HMUL := qH hmul
 clear hmul
 have st0 := St.start Nob w
 go_enter Tryz.func58, Tryz.ntmps58
 go_wp2_with (with_reducible refine wSk 3 ?_)
 refine a0m st0 rfl rfl rfl (cw 4 (elN m x)) rfl ?_
 intro g3 w1 st1
 clear st0
 go_wp2_with (with_reducible refine wSk 4 ?_)
 refine a0b st1 rfl rfl (z := zAd) (by kernel_rfl) (cw 4 0) (by rw [a0f]; rfl) ?_
 intro g4 w2 st2
 clear st1
 go_wp2_with (with_reducible refine wSk 6 ?_)
 refine a0h st2 0 rfl rfl rfl Tryz.underlying59 rfl (by simp only [a0a]; kernel_rfl) ?_
 go_wp2_with fail
 refine (HMUL.out _ (HPM.out.keep st2.fr id)).mono ?_
 rintro e' w3 ⟨rfl, hf3⟩
 have st3 := st2.keep hf3
 clear st2 hf3
 go_wp2_with fail
 refine (s0L (x % m.M) _).mono ?_
 rintro e' w4 ⟨rfl, hf4⟩
 have st4 := st3.keep hf4
 clear st3 hf4
 go_wp2_with (with_reducible refine wSn ?_)
 refine a0d st4 1 rfl rfl rfl rfl rfl (by first | (simp only [a0a]; done) | (simp only [List.length_append, a0a]; done)) (by simp only [a0a]; kernel_rfl) (a0i _ _) ?_
 intro w5 st5
 clear st4
 have hr := st5.at 1 rfl
 have hfr := st5.fr
 clear st5
 go_wp2_with fail
 exact bodyPost_ret (a0q rfl rfl hr Tryz.underlying72 (by simp only [a0a]; kernel_rfl)) rfl ⟨rfl, hfr⟩
theorem g0g (m : Md) (gp : Nat) (w : World) (hok : m.Ok) (hpm : Has w gp (mdL m) 115) (x y : Nat) :
  Calls Tryz.prog 90 #[.pointer (some ⟨gp, 0, none⟩), i4 (elN m x), i4 (elN m y)] w fun e w' => e = .returned (i4 (elN m (x + y))) ∧ Fr Nob w w' := by
 have HOK := qH hok
 have HPM := qH hpm
 clear hok hpm
 have hx := i0W m HOK.out x
 have hy := i0W m HOK.out y
 have HCA := qH (q0b (elN m x) (elN m y) (Nat.lt_trans hx HOK.out.lt) (Nat.lt_trans hy HOK.out.lt))
 have HFIN := qH (i0f (elN m x + elN m y) m.M HOK.out.lt (by omega))
 have H2 := qH (show (elN m x + elN m y) < 2 * B64 ^ 4 by have := HOK.out.lt; omega)
 clear hx hy
 have st0 := St.start Nob w
 go_enter Tryz.func90, Tryz.ntmps90
 go_wp2_with (with_reducible refine wSk 4 ?_)
 refine a0m st0 rfl rfl rfl (cw 4 (elN m x)) rfl ?_
 intro g4 w1 st1
 clear st0
 go_wp2_with (with_reducible refine wSk 5 ?_)
 refine a0m st1 rfl rfl rfl (cw 4 (elN m y)) rfl ?_
 intro g5 w2 st2
 clear st1
 go_wp2_with (with_reducible refine wSk 6 ?_)
 refine a0b st2 rfl rfl (z := zAd) (by kernel_rfl) (cw 4 0) (by rw [a0f]; rfl) ?_
 intro g6 w3 st3
 clear st2
 go_wp2_with (with_reducible refine wSk 12 ?_)
 refine a0h st3 0 rfl rfl rfl Tryz.underlying59 rfl (by simp only [a0a]; kernel_rfl) ?_
 go_wp2_with (with_reducible refine wSk 13 ?_)
 refine a0h st3 1 rfl rfl rfl Tryz.underlying59 rfl (by simp only [a0a]; kernel_rfl) ?_
 go_wp2_with fail
 refine (e0R (elN m x) (elN m y) _).mono ?_
 rintro e' w4 ⟨rfl, hf4⟩
 have st4 := st3.keep hf4
 clear st3 hf4
 go_wp2_with (with_reducible refine wSk 7 ?_)
 refine a0b st4 rfl rfl (z := zAd) (by kernel_rfl) (cw 4 0) (by rw [a0f]; rfl) ?_
 intro g7 w5 st5
 clear st4
 go_wp2_with (with_reducible refine wSn ?_)
 refine a0d st5 3 rfl rfl rfl rfl rfl (by first | (simp only [a0a]; done) | (simp only [List.length_append, a0a]; done)) (by simp only [a0a]; kernel_rfl) (a0i _ _) ?_
 intro w6 st6
 clear st5
 go_wp2_with fail
 refine wp_region_noPanic ?_
 refine a0p (fun wx => St Nob w wx [(g4, cw 4 (elN m x), 59), (g5, cw 4 (elN m y), 59), (g6, cw 4 0, 59), (g7, cw 4 (elN m x + elN m y), 72)]) 11 (.t 0 (.w 1 (.w 2 (.w 3 (.t 4 (.b 5 9 (.w 6 (.w 7 (.w 8 (.r 9 (.r 10 (.m 11 .nil)))))) (.r 5 (.w 6 (.w 7 (.w 8 (.r 10 (.m 11 .nil)))))))))))) (by kernel_rfl) (by kernel_rfl) st6.drew (fun _ _ _ _ _ h => h) ?_
 have hd6 := st6.drew
 clear st6
 refine a0s rfl rfl rfl rfl (cw 4 (elN m x + elN m y)) (fun wx hS => St.rangeL hS 3 rfl 0 _ dZl) Tryz.underlying72 rfl (by simp only [a0a]; kernel_rfl) ?_
 try simp only [clL]
 refine a0l (v := ?_) rfl rfl (fun wx => ?_) ?_
 rotate_left 1
 ·(go_simp; with_reducible rfl)
 try simp only [clL]
 refine a0l (v := ?_) rfl rfl (fun wx => ?_) ?_
 rotate_left 1
 ·(go_simp; with_reducible rfl)
 try simp only [clL]
 refine a0l (v := ?_) rfl rfl (fun wx => ?_) ?_
 rotate_left 1
 ·(go_simp; with_reducible rfl)
 try simp only [clL]
 refine a0s rfl rfl rfl rfl (cw 4 m.M) (fun wx hS => (HPM.out.keep (St.fr hS) id).range 0 _ (m0W m)) Tryz.underlying72 rfl (by simp only [a0a]; kernel_rfl) ?_
 try simp only [clL]
 refine x0G (C := fun g9 wz => St Nob w wz [(g4, cw 4 (elN m x), 59), (g5, cw 4 (elN m y), 59), (g6, cw 4 0, 59), (g7, cw 4 (elN m x + elN m y), 72), (g9, cw 4 ((elN m x + elN m y) + B64 ^ 4 - m.M), 72)]) (F := ?_) rfl rfl rfl rfl (fun key => ?_) (fun key => ?_) ?_
 rotate_left 1
 ·skip
  go_simp
  refine (c0T (elN m x + elN m y) m.M _ HOK.out.lt).mono ?_
  rintro e' w7 ⟨rfl, hf7⟩
  have st7 := hd6.keep hf7
  clear hf7
  refine ⟨st7, ?_⟩
  try simp only [clL]
  refine a0l (v := ?_) rfl rfl (fun wx => ?_) ?_
  rotate_left 1
  ·(go_simp; with_reducible rfl)
  try simp only [clL]
  refine a0l (v := ?_) rfl rfl (fun wx => ?_) ?_
  rotate_left 1
  ·(go_simp; with_reducible rfl)
  try simp only [clL]
  refine a0l (v := ?_) rfl rfl (fun wx => ?_) ?_
  rotate_left 1
  ·(go_simp; with_reducible rfl)
  try simp only [clL]
  refine a0A rfl rfl ?_
  refine a0Y st7 rfl (z := zAd) (by kernel_rfl) (cw 4 0) (by rw [a0f]; rfl) ?_
  intro g9 w8 st8
  refine ⟨St.less st8 (by simp), ?_⟩
  try simp only [clL]
  refine a0A rfl rfl ?_
  refine a0j st8 4 rfl rfl rfl rfl (by first | (simp only [a0a]; done) | (simp only [List.length_append, a0a]; done)) (by simp only [a0a]; kernel_rfl) (a0i _ _) ?_
  intro w9 st9
  refine ⟨St.less st9 (by simp), ?_⟩
  try simp only [Act.put]
  refine a0r rfl rfl ?_
  go_simp
  try simp only [clL]
  refine a0k ?_
  exact key g9 _ st9
 ·skip
  refine a0Y hd6 rfl (z := zAd) (by kernel_rfl) (cw 4 0) (by rw [a0f]; rfl) ?_
  intro g9 w10 st10
  refine ⟨St.less st10 (by simp), ?_⟩
  try simp only [clL]
  refine a0A rfl rfl ?_
  go_simp
  refine (c0T (elN m x + elN m y) m.M _ HOK.out.lt).mono ?_
  rintro e' w11 ⟨rfl, hf11⟩
  have st11 := st10.keep hf11
  clear hf11
  refine ⟨St.less st11 (by simp), ?_⟩
  try simp only [clL]
  refine a0l (v := ?_) rfl rfl (fun wx => ?_) ?_
  rotate_left 1
  ·(go_simp; with_reducible rfl)
  try simp only [clL]
  refine a0l (v := ?_) rfl rfl (fun wx => ?_) ?_
  rotate_left 1
  ·(go_simp; with_reducible rfl)
  try simp only [clL]
  refine a0l (v := ?_) rfl rfl (fun wx => ?_) ?_
  rotate_left 1
  ·(go_simp; with_reducible rfl)
  try simp only [clL]
  refine a0A rfl rfl ?_
  refine a0j st11 4 rfl rfl rfl rfl (by first | (simp only [a0a]; done) | (simp only [List.length_append, a0a]; done)) (by simp only [a0a]; kernel_rfl) (a0i _ _) ?_
  intro w12 st12
  refine ⟨St.less st12 (by simp), ?_⟩
  try simp only [Act.put]
  refine a0r rfl rfl ?_
  go_simp
  try simp only [clL]
  refine a0k ?_
  exact key g9 _ st12
 intro g9 w13 st13
 have st13 : St Nob w w13 [(g4, cw 4 (elN m x), 59), (g5, cw 4 (elN m y), 59), (g6, cw 4 0, 59), (g7, cw 4 (elN m x + elN m y), 72), (g9, cw 4 ((elN m x + elN m y) + B64 ^ 4 - m.M), 72)] := st13
 clear hd6
 refine NoPanic.normal ?_
 have hca := HCA.out
 have hfin := HFIN.out
 rw [hca]
 by_cases hlt2 : (elN m x + elN m y) < m.M
 ·obtain ⟨f1, f2, f3⟩ := hfin.1 hlt2
  rw [f1, f2]
  have HF := qH f3
  clear hca hfin f1 f2 f3 hlt2
  go_wp2_with (with_reducible refine wSk 32 ?_)
  refine a0h st13 3 rfl rfl rfl Tryz.underlying72 rfl (by simp only [a0a]; kernel_rfl) ?_
  go_wp2_with (with_reducible refine wSn ?_)
  refine a0d st13 2 rfl rfl rfl rfl rfl (by first | (simp only [a0a]; done) | (simp only [List.length_append, a0a]; done)) (by simp only [a0a]; kernel_rfl) (a0i _ _) ?_
  intro w14 st14
  clear st13
  have hr := st14.at 2 rfl
  have hfr := st14.fr
  clear st14
  go_wp2_with fail
  exact bodyPost_ret (a0q rfl rfl hr Tryz.underlying59 (by simp only [a0a]; kernel_rfl)) rfl ⟨by rw [← m0Z]; unfold i4; rw [HF.out], hfr⟩
 ·obtain ⟨f3, f4⟩ := hfin.2 hlt2
  have HF := qH f3
  by_cases hlt3 : (elN m x + elN m y) < B64 ^ 4
  ·obtain ⟨f1, f2⟩ := f4 hlt3
   rw [f1, f2]
   clear hca hfin f1 f2 f3 f4 hlt2 hlt3
   go_wp2_with (with_reducible refine wSk 33 ?_)
   refine a0h st13 4 rfl rfl rfl Tryz.underlying72 rfl (by simp only [a0a]; kernel_rfl) ?_
   go_wp2_with (with_reducible refine wSn ?_)
   refine a0d st13 2 rfl rfl rfl rfl rfl (by first | (simp only [a0a]; done) | (simp only [List.length_append, a0a]; done)) (by simp only [a0a]; kernel_rfl) (a0i _ _) ?_
   intro w14 st14
   clear st13
   have hr := st14.at 2 rfl
   have hfr := st14.fr
   clear st14
   go_wp2_with fail
   exact bodyPost_ret (a0q rfl rfl hr Tryz.underlying59 (by simp only [a0a]; kernel_rfl)) rfl ⟨by rw [← m0Z]; unfold i4; rw [HF.out], hfr⟩
  ·have f1 := p0X _ H2.out hlt3
   rw [f1]
   clear hca hfin f1 f3 f4 hlt2 hlt3
   go_wp2_with (with_reducible refine wSk 33 ?_)
   refine a0h st13 4 rfl rfl rfl Tryz.underlying72 rfl (by simp only [a0a]; kernel_rfl) ?_
   go_wp2_with (with_reducible refine wSn ?_)
   refine a0d st13 2 rfl rfl rfl rfl rfl (by first | (simp only [a0a]; done) | (simp only [List.length_append, a0a]; done)) (by simp only [a0a]; kernel_rfl) (a0i _ _) ?_
   intro w14 st14
   clear st13
   have hr := st14.at 2 rfl
   have hfr := st14.fr
   clear st14
   go_wp2_with fail
   exact bodyPost_ret (a0q rfl rfl hr Tryz.underlying59 (by simp only [a0a]; kernel_rfl)) rfl ⟨by rw [← m0Z]; unfold i4; rw [HF.out], hfr⟩
theorem n0a (m : Md) (gp : Nat) (w : World) (hok : m.Ok) (hpm : Has w gp (mdL m) 115) (x y : Nat) :
  Calls Tryz.prog 122 #[.pointer (some ⟨gp, 0, none⟩), i4 (elN m x), i4 (elN m y)] w fun e w' => e = .returned (i4 (elN m (x + (m.M - y % m.M)))) ∧ Fr Nob w w' := by
 have HOK := qH hok
 have HPM := qH hpm
 clear hok hpm
 have hx := i0W m HOK.out x
 have hy := i0W m HOK.out y
 have HY4 := qH (Nat.lt_trans hy HOK.out.lt)
 have HCS := qH (e0m (elN m x) (elN m y) 4 (Nat.lt_trans hx HOK.out.lt) (Nat.lt_trans hy HOK.out.lt))
 have HSA := qH (k0e (elN m x) (elN m y) m.M hx hy HOK.out.lt)
 have HSB := qH (k0f (elN m x) (elN m y) m.M hx hy)
 clear hx hy
 have st0 := St.start Nob w
 go_enter Tryz.func122, Tryz.ntmps122
 go_wp2_with (with_reducible refine wSk 4 ?_)
 refine a0m st0 rfl rfl rfl (cw 4 (elN m x)) rfl ?_
 intro g4 w1 st1
 clear st0
 go_wp2_with (with_reducible refine wSk 5 ?_)
 refine a0m st1 rfl rfl rfl (cw 4 (elN m y)) rfl ?_
 intro g5 w2 st2
 clear st1
 go_wp2_with (with_reducible refine wSk 6 ?_)
 refine a0b st2 rfl rfl (z := zAd) (by kernel_rfl) (cw 4 0) (by rw [a0f]; rfl) ?_
 intro g6 w3 st3
 clear st2
 go_wp2_with (with_reducible refine wSk 10 ?_)
 refine a0h st3 0 rfl rfl rfl Tryz.underlying59 rfl (by simp only [a0a]; kernel_rfl) ?_
 go_wp2_with (with_reducible refine wSk 11 ?_)
 refine a0h st3 1 rfl rfl rfl Tryz.underlying59 rfl (by simp only [a0a]; kernel_rfl) ?_
 go_wp2_with fail
 refine (c0T (elN m x) (elN m y) _ HY4.out).mono ?_
 rintro e' w4 ⟨rfl, hf4⟩
 have st4 := st3.keep hf4
 clear st3 hf4
 go_wp2_with (with_reducible refine wSk 7 ?_)
 refine a0b st4 rfl rfl (z := zAd) (by kernel_rfl) (cw 4 0) (by rw [a0f]; rfl) ?_
 intro g7 w5 st5
 clear st4
 go_wp2_with (with_reducible refine wSn ?_)
 refine a0d st5 3 rfl rfl rfl rfl rfl (by first | (simp only [a0a]; done) | (simp only [List.length_append, a0a]; done)) (by simp only [a0a]; kernel_rfl) (a0i _ _) ?_
 intro w6 st6
 clear st5
 have hcs := HCS.out
 by_cases hlt : elN m x < elN m y
 ·rw [if_pos hlt] at hcs
  rw [hcs]
  have HV := qH (HSA.out hlt)
  clear hcs hlt
  go_wp2_with fail
  refine wp_region_noPanic ?_
  refine a0p (fun wx => St Nob w wx [(g4, cw 4 (elN m x), 59), (g5, cw 4 (elN m y), 59), (g6, cw 4 0, 59), (g7, cw 4 (elN m x + B64 ^ 4 - elN m y), 72)]) 9 (.t 0 (.w 1 (.w 2 (.w 3 (.t 4 (.r 5 (.w 6 (.w 7 (.w 8 (.m 9 .nil)))))))))) (by kernel_rfl) (by kernel_rfl) st6.drew (fun _ _ _ _ _ h => h) ?_
  have hd6 := st6.drew
  clear st6
  refine a0s rfl rfl rfl rfl (cw 4 (elN m x + B64 ^ 4 - elN m y)) (fun wx hS => St.rangeL hS 3 rfl 0 _ dZl) Tryz.underlying72 rfl (by simp only [a0a]; kernel_rfl) ?_
  try simp only [clL]
  refine a0l (v := ?_) rfl rfl (fun wx => ?_) ?_
  rotate_left 1
  ·(go_simp; with_reducible rfl)
  try simp only [clL]
  refine a0l (v := ?_) rfl rfl (fun wx => ?_) ?_
  rotate_left 1
  ·(go_simp; with_reducible rfl)
  try simp only [clL]
  refine a0l (v := ?_) rfl rfl (fun wx => ?_) ?_
  rotate_left 1
  ·(go_simp; with_reducible rfl)
  try simp only [clL]
  refine a0s rfl rfl rfl rfl (cw 4 m.M) (fun wx hS => (HPM.out.keep (St.fr hS) id).range 0 _ (m0W m)) Tryz.underlying72 rfl (by simp only [a0a]; kernel_rfl) ?_
  try simp only [clL]
  refine a0A rfl rfl ?_
  go_simp
  refine (e0R (elN m x + B64 ^ 4 - elN m y) m.M _).mono ?_
  rintro e' w7 ⟨rfl, hf7⟩
  have st7 := hd6.keep hf7
  clear hf7
  clear hd6
  refine ⟨st7, ?_⟩
  try simp only [clL]
  refine a0l (v := ?_) rfl rfl (fun wx => ?_) ?_
  rotate_left 1
  ·(go_simp; with_reducible rfl)
  try simp only [clL]
  refine a0l (v := ?_) rfl rfl (fun wx => ?_) ?_
  rotate_left 1
  ·(go_simp; with_reducible rfl)
  try simp only [clL]
  refine a0l (v := ?_) rfl rfl (fun wx => ?_) ?_
  rotate_left 1
  ·(go_simp; with_reducible rfl)
  try simp only [clL]
  refine a0r rfl rfl ?_
  refine a0j st7 3 rfl rfl rfl rfl (by first | (simp only [a0a]; done) | (simp only [List.length_append, a0a]; done)) (by simp only [a0a]; kernel_rfl) (a0i _ _) ?_
  intro w8 st8
  clear st7
  try simp only [Act.put]
  refine a0k ?_
  refine NoPanic.normal ?_
  go_wp2_with (with_reducible refine wSk 26 ?_)
  refine a0h st8 3 rfl rfl rfl Tryz.underlying72 rfl (by simp only [a0a]; kernel_rfl) ?_
  go_wp2_with (with_reducible refine wSn ?_)
  refine a0d st8 2 rfl rfl rfl rfl rfl (by first | (simp only [a0a]; done) | (simp only [List.length_append, a0a]; done)) (by simp only [a0a]; kernel_rfl) (a0i _ _) ?_
  intro w9 st9
  clear st8
  have hr := st9.at 2 rfl
  have hfr := st9.fr
  clear st9
  go_wp2_with fail
  exact bodyPost_ret (a0q rfl rfl hr Tryz.underlying59 (by simp only [a0a]; kernel_rfl)) rfl ⟨by rw [← u0M m HOK.out]; unfold i4; rw [← HV.out], hfr⟩
 ·rw [if_neg hlt] at hcs
  rw [hcs]
  have HV := qH (HSB.out hlt)
  clear hcs hlt
  go_wp2_with (with_reducible refine wSk 26 ?_)
  refine a0h st6 3 rfl rfl rfl Tryz.underlying72 rfl (by simp only [a0a]; kernel_rfl) ?_
  go_wp2_with (with_reducible refine wSn ?_)
  refine a0d st6 2 rfl rfl rfl rfl rfl (by first | (simp only [a0a]; done) | (simp only [List.length_append, a0a]; done)) (by simp only [a0a]; kernel_rfl) (a0i _ _) ?_
  intro w7 st7
  clear st6
  have hr := st7.at 2 rfl
  have hfr := st7.fr
  clear st7
  go_wp2_with fail
  exact bodyPost_ret (a0q rfl rfl hr Tryz.underlying59 (by simp only [a0a]; kernel_rfl)) rfl ⟨by rw [← u0M m HOK.out]; unfold i4; rw [← HV.out], hfr⟩
theorem n0b (m : Md) (gp : Nat) (w : World) (hok : m.Ok) (hpm : Has w gp (mdL m) 115) (x : Nat) :
  Calls Tryz.prog 121 #[.pointer (some ⟨gp, 0, none⟩), i4 (elN m x)] w fun e w' => e = .returned (i4 (elN m (m.M - x % m.M))) ∧ Fr Nob w w' := by
 have HOK := qH hok
 have HPM := qH hpm
 clear hok hpm
 have hsub := fun wx (h : Has wx gp (mdL m) 115) => n0a m gp wx HOK.out h 0 x
 rw [d0m m, ← b0g 0 (by decide)] at hsub
 have HSUB := qH hsub
 clear hsub
 have st0 := St.start Nob w
 go_enter Tryz.func121, Tryz.ntmps121
 go_wp2_with (with_reducible refine wSk 3 ?_)
 refine a0m st0 rfl rfl rfl (cw 4 (elN m x)) rfl ?_
 intro g3 w1 st1
 clear st0
 go_wp2_with (with_reducible refine wSk 4 ?_)
 refine a0b st1 rfl rfl (z := zAd) (by kernel_rfl) (cw 4 0) (by rw [a0f]; rfl) ?_
 intro g4 w2 st2
 clear st1
 go_wp2_with (with_reducible refine wSk 7 ?_)
 refine a0h st2 0 rfl rfl rfl Tryz.underlying59 rfl (by simp only [a0a]; kernel_rfl) ?_
 go_wp2_with fail
 refine (HSUB.out _ (HPM.out.keep st2.fr id)).mono ?_
 rintro e' w3 ⟨rfl, hf3⟩
 have st3 := st2.keep hf3
 clear st2 hf3
 go_wp2_with (with_reducible refine wSn ?_)
 refine a0d st3 1 rfl rfl rfl rfl rfl (by first | (simp only [a0a]; done) | (simp only [List.length_append, a0a]; done)) (by simp only [a0a]; kernel_rfl) (a0i _ _) ?_
 intro w4 st4
 clear st3
 have hr := st4.at 1 rfl
 have hfr := st4.fr
 clear st4
 go_wp2_with fail
 exact bodyPost_ret (a0q rfl rfl hr Tryz.underlying59 (by simp only [a0a]; kernel_rfl)) rfl ⟨rfl, hfr⟩
theorem v0O (m : Md) (gp : Nat) (w : World) (hok : m.Ok) (hpm : Has w gp (mdL m) 115) (x y : Nat) :
  Calls Tryz.prog 77 #[.pointer (some ⟨gp, 0, none⟩), i4 (elN m x), i4 (elN m y)] w fun e w' => e = .returned (i4 (elN m (x * y))) ∧ Fr Nob w w' := by
 have h := g0f m gp (elN m x) (elN m y) w hok hpm (k0d m hok x) (i0W m hok y)
 rwa [x0C m hok] at h
theorem c0W (m : Md) (gp : Nat) (w : World) (hok : m.Ok) (hpm : Has w gp (mdL m) 115) (x : Nat) :
  Calls Tryz.prog 76 #[.pointer (some ⟨gp, 0, none⟩), i4 (elN m x)] w fun e w' => e = .returned (i4 (elN m (x * x))) ∧ Fr Nob w w' := by
 have HOK := qH hok
 have HPM := qH hpm
 clear hok hpm
 have st0 := St.start Nob w
 go_enter Tryz.func76, Tryz.ntmps76
 go_wp2_with (with_reducible refine wSk 3 ?_)
 refine a0m st0 rfl rfl rfl (cw 4 (elN m x)) rfl ?_
 intro g3 w1 st1
 clear st0
 go_wp2_with (with_reducible refine wSk 4 ?_)
 refine a0b st1 rfl rfl (z := zAd) (by kernel_rfl) (cw 4 0) (by rw [a0f]; rfl) ?_
 intro g4 w2 st2
 clear st1
 go_wp2_with (with_reducible refine wSk 6 ?_)
 refine a0h st2 0 rfl rfl rfl Tryz.underlying59 rfl (by simp only [a0a]; kernel_rfl) ?_
 go_wp2_with (with_reducible refine wSk 7 ?_)
 refine a0h st2 0 rfl rfl rfl Tryz.underlying59 rfl (by simp only [a0a]; kernel_rfl) ?_
 go_wp2_with fail
 refine (v0O m gp _ HOK.out (HPM.out.keep st2.fr id) x x).mono ?_
 rintro e' w3 ⟨rfl, hf3⟩
 have st3 := st2.keep hf3
 clear st2 hf3
 go_wp2_with (with_reducible refine wSn ?_)
 refine a0d st3 1 rfl rfl rfl rfl rfl (by first | (simp only [a0a]; done) | (simp only [List.length_append, a0a]; done)) (by simp only [a0a]; kernel_rfl) (a0i _ _) ?_
 intro w4 st4
 clear st3
 have hr := st4.at 1 rfl
 have hfr := st4.fr
 clear st4
 go_wp2_with fail
 exact bodyPost_ret (a0q rfl rfl hr Tryz.underlying59 (by simp only [a0a]; kernel_rfl)) rfl ⟨rfl, hfr⟩
end
section
open Go.RowKit Go.Mv Mvp
attribute [local irreducible] a0J lw mix cw b0t b0G b0q a0P a0u beN laid b0o b0H a0M a0V elN
theorem x0H (m : Md) (x n i : Nat) (h : n / 2 ^ i % 2 = 0) : elN m (x ^ (n / 2 ^ (i + 1)) * x ^ (n / 2 ^ (i + 1))) = elN m (x ^ (n / 2 ^ i)) := by
 have := d0s n i
 rw [h, Nat.two_mul, Nat.add_zero] at this
 rw [← Nat.pow_add, this]
theorem x0I (m : Md) (x n i : Nat) (h : n / 2 ^ i % 2 = 1) : elN m (x ^ (n / 2 ^ (i + 1)) * x ^ (n / 2 ^ (i + 1)) * x) = elN m (x ^ (n / 2 ^ i)) := by
 have := d0s n i
 rw [h, Nat.two_mul] at this
 rw [← Nat.pow_add, ← Nat.pow_succ, this]
theorem q0c (m : Md) (x n : Nat) (h : n < B64 ^ 4) : elN m (x ^ (n / 2 ^ 256)) = elN m 1 := by
 rw [Nat.div_eq_of_lt (Nat.lt_of_lt_of_le h (by decide)), Nat.pow_zero]
theorem q0d (m : Md) (x n : Nat) : elN m (x ^ (n / 2 ^ 0)) = elN m (x ^ n) := by rw [Nat.pow_zero, Nat.div_one]
theorem x0J (m : Md) (n i : Nat) (h : n / 2 ^ i % 2 = 0) : elN m (n / 2 ^ (i + 1) + n / 2 ^ (i + 1)) = elN m (n / 2 ^ i) := by
 have := d0s n i
 rw [h, Nat.two_mul, Nat.add_zero] at this
 rw [this]
theorem x0K (m : Md) (n i : Nat) (h : n / 2 ^ i % 2 = 1) : elN m (n / 2 ^ (i + 1) + n / 2 ^ (i + 1) + 1) = elN m (n / 2 ^ i) := by
 have := d0s n i
 rw [h, Nat.two_mul] at this
 rw [this]
theorem g0h (m : Md) (gp : Nat) (w : World) (hok : m.Ok) (hpm : Has w gp (mdL m) 115) (x n : Nat) (hn : n < B64 ^ 4) :
  Calls Tryz.prog 104 #[.pointer (some ⟨gp, 0, none⟩), i4 (elN m x), i4 n] w fun e w' => e = .returned (i4 (elN m (x ^ n))) ∧ Fr Nob w w' := by
 have HOK := qH hok
 have HPM := qH hpm
 clear hok hpm
 have HN := qH hn
 have HTOP := qH (q0c m x n hn)
 clear hn
 have st0 := St.start Nob w
 go_enter Tryz.func104, Tryz.ntmps104
 go_wp2_with (with_reducible refine wSk 4 ?_)
 refine a0m st0 rfl rfl rfl (cw 4 (elN m x)) rfl ?_
 intro g4 w1 st1
 clear st0
 go_wp2_with (with_reducible refine wSk 5 ?_)
 refine a0m st1 rfl rfl rfl (cw 4 n) rfl ?_
 intro g5 w2 st2
 clear st1
 go_wp2_with (with_reducible refine wSk 6 ?_)
 refine a0b st2 rfl rfl (z := zAd) (by kernel_rfl) (cw 4 0) (by rw [a0f]; rfl) ?_
 intro g6 w3 st3
 clear st2
 go_wp2_with fail
 refine (d0M m gp _ HOK.out (HPM.out.keep st3.fr id)).mono ?_
 rintro e' w4 ⟨rfl, hf4⟩
 have st4 := st3.keep hf4
 clear st3 hf4
 go_wp2_with (with_reducible refine wSk 7 ?_)
 refine a0b st4 rfl rfl (z := zAd) (by kernel_rfl) (cw 4 0) (by rw [a0f]; rfl) ?_
 intro g7 w5 st5
 clear st4
 go_wp2_with (with_reducible refine wSn ?_)
 refine a0d st5 3 rfl rfl rfl rfl rfl (by first | (simp only [a0a]; done) | (simp only [List.length_append, a0a]; done)) (by simp only [a0a]; kernel_rfl) (a0i _ _) ?_
 intro w6 st6
 clear st5
 go_wp2
 go_loopw [8] (fun i wr => ∃ j : Nat, j ≤ 256 ∧ i = .int .i64 ((j : Int) - 1) ∧ St Nob w wr [(g4, cw 4 (elN m x), 59), (g5, cw 4 n, 72), (g6, cw 4 0, 59), (g7, cw 4 (elN m (x ^ (n / 2 ^ j))), 59)]) (fun i _ => (intOf i + 1).toNat)
 case atStart => exact ⟨256, by omega, rfl, by rw [HTOP.out]; exact st6⟩
 case round =>
  obtain ⟨j, hj, rfl, st⟩ := hrel
  clear st6
  cases j with
  | succ i =>
   rw [show (((i + 1 : Nat) : Int)) - 1 = (i : Int) by omega]
   have hge : (0 : Int) ≤ (i : Int) := by omega
   go_wp2_with (with_reducible refine wSk 16 ?_)
   refine a0h st 3 rfl rfl rfl Tryz.underlying59 rfl (by simp only [a0a]; kernel_rfl) ?_
   go_wp2_with fail
   refine (c0W m gp _ HOK.out (HPM.out.keep st.fr id) (x ^ (n / 2 ^ (i + 1)))).mono ?_
   rintro e' w7 ⟨rfl, hf7⟩
   have st7 := st.keep hf7
   clear st hf7
   go_wp2_with (with_reducible refine wSn ?_)
   refine a0d st7 3 rfl rfl rfl rfl rfl (by first | (simp only [a0a]; done) | (simp only [List.length_append, a0a]; done)) (by simp only [a0a]; kernel_rfl) (a0i _ _) ?_
   intro w8 st8
   clear st7
   go_wp2_with (with_reducible refine wSk 18 ?_)
   refine a0h st8 1 rfl rfl rfl Tryz.underlying72 rfl (by simp only [a0a]; kernel_rfl) ?_
   go_wp2_with fail
   refine (m0T n i _ (by omega)).mono ?_
   rintro e' w9 ⟨rfl, hf9⟩
   have st9 := st8.keep hf9
   clear st8 hf9
   have hbt : n / 2 ^ i % 2 = 0 ∨ n / 2 ^ i % 2 = 1 := by omega
   have HS0 := qH (x0H m x n i)
   have HS1 := qH (x0I m x n i)
   generalize hbb : n / 2 ^ i % 2 = bt at *
   have HBB := qH hbb
   clear hbb
   rcases hbt with rfl | rfl
   ·have hst := st9
    rw [HS0.out (by first | rfl | trivial)] at hst
    clear st9
    go_wp2
    go_roundw
    case rel => exact ⟨i, by omega, rfl, hst⟩
    case measure => simp [intOf]
   ·skip
    go_wp2_with (with_reducible refine wSk 23 ?_)
    refine a0h st9 3 rfl rfl rfl Tryz.underlying59 rfl (by simp only [a0a]; kernel_rfl) ?_
    go_wp2_with (with_reducible refine wSk 24 ?_)
    refine a0h st9 0 rfl rfl rfl Tryz.underlying59 rfl (by simp only [a0a]; kernel_rfl) ?_
    go_wp2_with fail
    refine (v0O m gp _ HOK.out (HPM.out.keep st9.fr id) ((x ^ (n / 2 ^ (i + 1))) * (x ^ (n / 2 ^ (i + 1)))) x).mono ?_
    rintro e' w10 ⟨rfl, hf10⟩
    have st10 := st9.keep hf10
    clear st9 hf10
    go_wp2_with (with_reducible refine wSn ?_)
    refine a0d st10 3 rfl rfl rfl rfl rfl (by first | (simp only [a0a]; done) | (simp only [List.length_append, a0a]; done)) (by simp only [a0a]; kernel_rfl) (a0i _ _) ?_
    intro w11 st11
    clear st10
    have hst := st11
    rw [HS1.out (by first | rfl | trivial)] at hst
    clear st11
    go_wp2
    go_roundw
    case rel => exact ⟨i, by omega, rfl, hst⟩
    case measure => simp [intOf]
  | zero =>
   rw [show (((0 : Nat) : Int)) - 1 = -1 by omega]
   go_wp2_with (with_reducible refine wSk 26 ?_)
   refine a0h st 3 rfl rfl rfl Tryz.underlying59 rfl (by simp only [a0a]; kernel_rfl) ?_
   go_wp2_with (with_reducible refine wSn ?_)
   refine a0d st 2 rfl rfl rfl rfl rfl (by first | (simp only [a0a]; done) | (simp only [List.length_append, a0a]; done)) (by simp only [a0a]; kernel_rfl) (a0i _ _) ?_
   intro w7 st7
   clear st
   have hr := st7.at 2 rfl
   have hfr := st7.fr
   clear st7
   go_wp2_with fail
   exact bodyPost_ret (a0q rfl rfl hr Tryz.underlying59 (by simp only [a0a]; kernel_rfl)) rfl ⟨by rw [← q0d]; rfl, hfr⟩
theorem s0M (m : Md) (gp : Nat) (w : World) (hok : m.Ok) (hpm : Has w gp (mdL m) 115) (x : Nat) :
  Calls Tryz.prog 75 #[.pointer (some ⟨gp, 0, none⟩), i4 (elN m x)] w fun e w' => e = .returned (i4 (elN m (x ^ (m.M - 2)))) ∧ Fr Nob w w' := by
 have HOK := qH hok
 have HPM := qH hpm
 clear hok hpm
 have HM2 := qH (show m.M - 2 < B64 ^ 4 by have := HOK.out.lt; omega)
 have h2m := fun wx => c0T m.M 2 wx (by decide)
 rw [g0D m.M 2 (by have := HOK.out.one; omega), ← b0g 2 (by decide)] at h2m
 have H2M := qH h2m
 clear h2m
 have st0 := St.start Nob w
 go_enter Tryz.func75, Tryz.ntmps75
 go_wp2_with (with_reducible refine wSk 3 ?_)
 refine a0m st0 rfl rfl rfl (cw 4 (elN m x)) rfl ?_
 intro g3 w1 st1
 clear st0
 go_wp2_with (with_reducible refine wSk 4 ?_)
 refine a0b st1 rfl rfl (z := zAd) (by kernel_rfl) (cw 4 0) (by rw [a0f]; rfl) ?_
 intro g4 w2 st2
 clear st1
 go_wp2_with (with_reducible refine wSk 11 ?_)
 refine b0E rfl rfl Tryz.underlying72 rfl (HPM.out.keep st2.fr id) (cw 4 m.M) (m0W m) (by simp only [a0a]; kernel_rfl) ?_
 go_wp2_with fail
 refine (H2M.out _).mono ?_
 rintro e' w3 ⟨rfl, hf3⟩
 have st3 := st2.keep hf3
 clear st2 hf3
 go_wp2_with (with_reducible refine wSk 5 ?_)
 refine a0b st3 rfl rfl (z := zAd) (by kernel_rfl) (cw 4 0) (by rw [a0f]; rfl) ?_
 intro g5 w4 st4
 clear st3
 go_wp2_with (with_reducible refine wSn ?_)
 refine a0d st4 2 rfl rfl rfl rfl rfl (by first | (simp only [a0a]; done) | (simp only [List.length_append, a0a]; done)) (by simp only [a0a]; kernel_rfl) (a0i _ _) ?_
 intro w5 st5
 clear st4
 go_wp2_with (with_reducible refine wSk 17 ?_)
 refine a0h st5 0 rfl rfl rfl Tryz.underlying59 rfl (by simp only [a0a]; kernel_rfl) ?_
 go_wp2_with (with_reducible refine wSk 18 ?_)
 refine a0h st5 2 rfl rfl rfl Tryz.underlying72 rfl (by simp only [a0a]; kernel_rfl) ?_
 go_wp2_with fail
 refine (g0h m gp _ HOK.out (HPM.out.keep st5.fr id) x (m.M - 2) HM2.out).mono ?_
 rintro e' w6 ⟨rfl, hf6⟩
 have st6 := st5.keep hf6
 clear st5 hf6
 go_wp2_with (with_reducible refine wSn ?_)
 refine a0d st6 1 rfl rfl rfl rfl rfl (by first | (simp only [a0a]; done) | (simp only [List.length_append, a0a]; done)) (by simp only [a0a]; kernel_rfl) (a0i _ _) ?_
 intro w7 st7
 clear st6
 have hr := st7.at 1 rfl
 have hfr := st7.fr
 clear st7
 go_wp2_with fail
 exact bodyPost_ret (a0q rfl rfl hr Tryz.underlying59 (by simp only [a0a]; kernel_rfl)) rfl ⟨rfl, hfr⟩
theorem k0i (m : Md) (gp : Nat) (w : World) (hok : m.Ok) (hpm : Has w gp (mdL m) 115) (a : Option Addr) (n c : Nat) (l : List UInt8) (hb : RdB w a n l) (hn : n ≤ 32) :
  Calls Tryz.prog 89 #[.pointer (some ⟨gp, 0, none⟩), .slice a n c] w fun e w' => e = .returned (i4 (elN m (beN l))) ∧ Fr Nob w w' := by
 have HOK := qH hok
 have HPM := qH hpm
 clear hok hpm
 have HN := qH hn
 have HBB := qH hb
 have hbl := i0Q l (by rw [hb.len]; exact hn)
 have HBL := qH hbl
 have HTOP := qH (show elN m (beN l / 2 ^ 256) = 0 by rw [Nat.div_eq_of_lt (Nat.lt_of_lt_of_le hbl (by decide)), d0m])
 have HALL := qH (show elN m (beN l / 2 ^ 0) = elN m (beN l) by rw [Nat.pow_zero, Nat.div_one])
 clear hb hbl
 clear hn
 have st0 := St.start Nob w
 go_enter Tryz.func89, Tryz.ntmps89
 go_wp2_with (with_reducible refine wSk 4 ?_)
 refine a0b st0 rfl rfl (z := zAd) (by kernel_rfl) (cw 4 0) (by rw [a0f]; rfl) ?_
 intro g4 w1 st1
 clear st0
 go_wp2_with fail
 refine (d0J a n c l _ (HBB.out.still st1.fr) HN.out).mono ?_
 rintro e' w2 ⟨rfl, hf2⟩
 have st2 := st1.keep hf2
 clear st1 hf2
 go_wp2_with (with_reducible refine wSk 5 ?_)
 refine a0b st2 rfl rfl (z := zAd) (by kernel_rfl) (cw 4 0) (by rw [a0f]; rfl) ?_
 intro g5 w3 st3
 clear st2
 go_wp2_with (with_reducible refine wSn ?_)
 refine a0d st3 1 rfl rfl rfl rfl rfl (by first | (simp only [a0a]; done) | (simp only [List.length_append, a0a]; done)) (by first | (rw [a0a]; kernel_rfl) | (simp only [List.length_append, a0a]; kernel_rfl)) (a0i _ _) ?_
 intro w4 st4
 clear st3
 go_wp2_with fail
 refine wp_region_noPanic ?_
 refine a0p (fun wx => St Nob w wx [(g4, cw 4 0, 59), (g5, cw 4 (beN l), 72)]) 5 (.t 0 (.w 1 (.w 2 (.w 3 (.t 4 (.m 5 .nil)))))) (by kernel_rfl) (by kernel_rfl) st4.drew (fun _ _ _ _ _ h => h) ?_
 have hd4 := st4.drew
 clear st4
 refine a0s rfl rfl rfl rfl (cw 4 (beN l)) (fun wx hS => St.rangeL hS 1 rfl 0 _ dZl) Tryz.underlying72 rfl (by first | (rw [a0a]; kernel_rfl) | (simp only [List.length_append, a0a]; kernel_rfl)) ?_
 try simp only [clL]
 refine a0l (v := ?_) rfl rfl (fun wx => ?_) ?_
 rotate_left 1
 ·(go_simp; with_reducible rfl)
 try simp only [clL]
 refine a0l (v := ?_) rfl rfl (fun wx => ?_) ?_
 rotate_left 1
 ·(go_simp; with_reducible rfl)
 try simp only [clL]
 refine a0l (v := ?_) rfl rfl (fun wx => ?_) ?_
 rotate_left 1
 ·(go_simp; with_reducible rfl)
 try simp only [clL]
 refine a0s rfl rfl rfl rfl (cw 4 m.M) (fun wx hS => (HPM.out.keep (St.fr hS) id).range 0 _ (m0W m)) Tryz.underlying72 rfl (by first | (rw [a0a]; kernel_rfl) | (simp only [List.length_append, a0a]; kernel_rfl)) ?_
 try simp only [clL]
 refine a0r rfl rfl ?_
 go_simp
 refine (k0h (beN l) m.M _ HBL.out HOK.out.lt).mono ?_
 rintro e' w5 ⟨rfl, hf5⟩
 have st5 := hd4.keep hf5
 clear hf5
 clear hd4
 try simp only []
 refine a0k ?_
 refine NoPanic.normal ?_
 by_cases hlt : beN l < m.M
 ·have hd := decide_eq_true hlt
  have HLT := qH hlt
  rw [hd]
  clear hd hlt
  go_wp2_with (with_reducible refine wSk 18 ?_)
  refine a0h st5 1 rfl rfl rfl Tryz.underlying72 rfl (by first | (rw [a0a]; kernel_rfl) | (simp only [List.length_append, a0a]; kernel_rfl)) ?_
  go_wp2_with fail
  refine (d0N m gp _ HOK.out (HPM.out.keep st5.fr id) (beN l) HBL.out).mono ?_
  rintro e' w6 ⟨rfl, hf6⟩
  have st6 := st5.keep hf6
  clear st5 hf6
  go_wp2_with (with_reducible refine wSn ?_)
  refine a0d st6 0 rfl rfl rfl rfl rfl (by first | (simp only [a0a]; done) | (simp only [List.length_append, a0a]; done)) (by first | (rw [a0a]; kernel_rfl) | (simp only [List.length_append, a0a]; kernel_rfl)) (a0i _ _) ?_
  intro w7 st7
  clear st6
  have hr := st7.at 0 rfl
  have hfr := st7.fr
  clear st7
  go_wp2_with fail
  exact bodyPost_ret (a0q rfl rfl hr Tryz.underlying59 (by first | (rw [a0a]; kernel_rfl) | (simp only [List.length_append, a0a]; kernel_rfl))) rfl ⟨rfl, hfr⟩
 ·have hd := decide_eq_false hlt
  rw [hd]
  clear hd hlt
  go_wp2_with (with_reducible refine wSk 6 ?_)
  refine a0b st5 rfl rfl (z := zAd) (by kernel_rfl) (cw 4 0) (by rw [a0f]; rfl) ?_
  intro g6 w6 st6
  clear st5
  go_wp2_with fail
  refine (d0M m gp _ HOK.out (HPM.out.keep st6.fr id)).mono ?_
  rintro e' w7 ⟨rfl, hf7⟩
  have st7 := st6.keep hf7
  clear st6 hf7
  go_wp2_with (with_reducible refine wSk 7 ?_)
  refine a0b st7 rfl rfl (z := zAd) (by kernel_rfl) (cw 4 0) (by rw [a0f]; rfl) ?_
  intro g7 w8 st8
  clear st7
  go_wp2_with (with_reducible refine wSn ?_)
  refine a0d st8 3 rfl rfl rfl rfl rfl (by first | (simp only [a0a]; done) | (simp only [List.length_append, a0a]; done)) (by first | (rw [a0a]; kernel_rfl) | (simp only [List.length_append, a0a]; kernel_rfl)) (a0i _ _) ?_
  intro w9 st9
  clear st8
  go_wp2
  go_loopw [8] (fun i wr => ∃ j : Nat, j ≤ 256 ∧ i = .int .i64 ((j : Int) - 1) ∧ St Nob w wr [(g4, cw 4 0, 59), (g5, cw 4 (beN l), 72), (g6, cw 4 (elN m (beN l / 2 ^ j)), 59), (g7, cw 4 (elN m 1), 59)]) (fun i _ => (intOf i + 1).toNat)
  case atStart => exact ⟨256, by omega, rfl, by rw [HTOP.out]; exact st9⟩
  case round =>
   obtain ⟨j, hj, rfl, st⟩ := hrel
   clear st9
   cases j with
   | succ i =>
    rw [show (((i + 1 : Nat) : Int)) - 1 = (i : Int) by omega]
    have hge : (0 : Int) ≤ (i : Int) := by omega
    go_wp2_with (with_reducible refine wSk 27 ?_)
    refine a0h st 2 rfl rfl rfl Tryz.underlying59 rfl (by first | (rw [a0a]; kernel_rfl) | (simp only [List.length_append, a0a]; kernel_rfl)) ?_
    go_wp2_with (with_reducible refine wSk 28 ?_)
    refine a0h st 2 rfl rfl rfl Tryz.underlying59 rfl (by first | (rw [a0a]; kernel_rfl) | (simp only [List.length_append, a0a]; kernel_rfl)) ?_
    go_wp2_with fail
    refine (g0g m gp _ HOK.out (HPM.out.keep st.fr id) (beN l / 2 ^ (i + 1)) (beN l / 2 ^ (i + 1))).mono ?_
    rintro e' w10 ⟨rfl, hf10⟩
    have st10 := st.keep hf10
    clear st hf10
    go_wp2_with (with_reducible refine wSn ?_)
    refine a0d st10 2 rfl rfl rfl rfl rfl (by first | (simp only [a0a]; done) | (simp only [List.length_append, a0a]; done)) (by first | (rw [a0a]; kernel_rfl) | (simp only [List.length_append, a0a]; kernel_rfl)) (a0i _ _) ?_
    intro w11 st11
    clear st10
    go_wp2_with (with_reducible refine wSk 30 ?_)
    refine a0h st11 1 rfl rfl rfl Tryz.underlying72 rfl (by first | (rw [a0a]; kernel_rfl) | (simp only [List.length_append, a0a]; kernel_rfl)) ?_
    go_wp2_with fail
    refine (m0T (beN l) i _ (by omega)).mono ?_
    rintro e' w12 ⟨rfl, hf12⟩
    have st12 := st11.keep hf12
    clear st11 hf12
    have hbt : beN l / 2 ^ i % 2 = 0 ∨ beN l / 2 ^ i % 2 = 1 := by omega
    have HS0 := qH (x0J m (beN l) i)
    have HS1 := qH (x0K m (beN l) i)
    generalize hbb : beN l / 2 ^ i % 2 = bt at *
    have HBT := qH hbb
    clear hbb
    rcases hbt with rfl | rfl
    ·have hst := st12
     rw [HS0.out (by first | rfl | trivial)] at hst
     clear st12
     go_wp2
     go_roundw
     case rel => exact ⟨i, by omega, rfl, hst⟩
     case measure => simp [intOf]
    ·skip
     go_wp2_with (with_reducible refine wSk 35 ?_)
     refine a0h st12 2 rfl rfl rfl Tryz.underlying59 rfl (by first | (rw [a0a]; kernel_rfl) | (simp only [List.length_append, a0a]; kernel_rfl)) ?_
     go_wp2_with (with_reducible refine wSk 36 ?_)
     refine a0h st12 3 rfl rfl rfl Tryz.underlying59 rfl (by first | (rw [a0a]; kernel_rfl) | (simp only [List.length_append, a0a]; kernel_rfl)) ?_
     go_wp2_with fail
     refine (g0g m gp _ HOK.out (HPM.out.keep st12.fr id) ((beN l / 2 ^ (i + 1)) + (beN l / 2 ^ (i + 1))) 1).mono ?_
     rintro e' w13 ⟨rfl, hf13⟩
     have st13 := st12.keep hf13
     clear st12 hf13
     go_wp2_with (with_reducible refine wSn ?_)
     refine a0d st13 2 rfl rfl rfl rfl rfl (by first | (simp only [a0a]; done) | (simp only [List.length_append, a0a]; done)) (by first | (rw [a0a]; kernel_rfl) | (simp only [List.length_append, a0a]; kernel_rfl)) (a0i _ _) ?_
     intro w14 st14
     clear st13
     have hst := st14
     rw [HS1.out (by first | rfl | trivial)] at hst
     clear st14
     go_wp2
     go_roundw
     case rel => exact ⟨i, by omega, rfl, hst⟩
     case measure => simp [intOf]
   | zero =>
    rw [show (((0 : Nat) : Int)) - 1 = -1 by omega]
    go_wp2_with (with_reducible refine wSk 38 ?_)
    refine a0h st 2 rfl rfl rfl Tryz.underlying59 rfl (by first | (rw [a0a]; kernel_rfl) | (simp only [List.length_append, a0a]; kernel_rfl)) ?_
    go_wp2_with (with_reducible refine wSn ?_)
    refine a0d st 0 rfl rfl rfl rfl rfl (by first | (simp only [a0a]; done) | (simp only [List.length_append, a0a]; done)) (by first | (rw [a0a]; kernel_rfl) | (simp only [List.length_append, a0a]; kernel_rfl)) (a0i _ _) ?_
    intro w10 st10
    clear st
    have hr := st10.at 0 rfl
    have hfr := st10.fr
    clear st10
    go_wp2_with fail
    exact bodyPost_ret (a0q rfl rfl hr Tryz.underlying59 (by first | (rw [a0a]; kernel_rfl) | (simp only [List.length_append, a0a]; kernel_rfl))) rfl ⟨rfl, hfr⟩
end
section
open Go.RowKit Go.Mv Mvp
attribute [local irreducible] a0J lw mix cw b0t b0G b0q a0P a0u beN laid b0o b0H a0M a0V elN
theorem s0N (m : Md) (h : m.Ok) (x : Nat) : elN m x * (B64 ^ 4 * B64 ^ 4 % m.M) * m.Ri % m.M = elN m (x * B64 ^ 4) := by
 rw [x0D m h]
 refine i0X m ?_
 unfold elN
 rw [Nat.mod_mod]
theorem x0L (m : Md) (gp : Nat) (w : World) (hok : m.Ok) (hpm : Has w gp (mdL m) 115) (x : Nat) :
  Calls Tryz.prog 77 #[.pointer (some ⟨gp, 0, none⟩), i4 (elN m x), i4 (B64 ^ 4 * B64 ^ 4 % m.M)] w fun e w' => e = .returned (i4 (elN m (x * B64 ^ 4))) ∧ Fr Nob w w' := by
 have h := g0f m gp (elN m x) (B64 ^ 4 * B64 ^ 4 % m.M) w hok hpm (k0d m hok x) (Nat.mod_lt _ (by have := hok.one; omega))
 rwa [s0N m hok] at h
def lnV : Value → Nat
 | .slice _ n _ => n
 | _ => 0
theorem RdB.front {w : World} {a : Option Addr} {n : Nat} {l : List UInt8} (h : RdB w a n l) (k : Nat) (hk : k ≤ n) : RdB w a k (l.take k) := by
 have h' : Rd w a n (bs l) := h
 refine ⟨by rw [a0H, List.length_take, h.len]; omega, ?_⟩
 rcases h'.2 with h0 | ⟨b, o, rfl, hc⟩
 ·exact .inl (by omega)
 ·refine .inr ⟨b, o, rfl, fun i v hv => hc i v ?_⟩
  rw [← e0C, List.getElem?_take] at hv
  split at hv
  ·exact hv
  ·cases hv
theorem RdB.behind {w : World} {a : Option Addr} {n c : Nat} {l : List UInt8} (h : RdB w a n l) (k : Nat) (hk : k ≤ n) (hc : n ≤ c) : RdB w (c0m a k c) (n - k) (l.drop k) := by
 have h1 := i0I (m := c) h k n hk hc (Nat.le_refl _)
 unfold RdB
 rw [l0C] at h1
 rwa [List.take_of_length_le (by rw [a0H, List.length_drop, h.len]; exact Nat.le_refl _)] at h1
theorem l0O (m : Md) (gp : Nat) (w : World) (hok : m.Ok) (hpm : Has w gp (mdL m) 115) (a : Option Addr) (n c : Nat) (l : List UInt8) (hb : RdB w a n l) (hc : n ≤ c) (hn : n ≤ 1000000) :
  Calls Tryz.prog 55 #[.pointer (some ⟨gp, 0, none⟩), .slice a n c] w fun e w' => e = .returned (i4 (beN l % m.M)) ∧ Fr Nob w w' := by
 have HOK := qH hok
 have HPM := qH hpm
 clear hok hpm
 have HC := qH hc
 have HN := qH hn
 have HBB := qH hb
 have HL := qH hb.len
 clear hb
 clear hc hn
 have st0 := St.start Nob w
 go_enter Tryz.func55, Tryz.ntmps55
 go_wp2_with (with_reducible refine wSk 4 ?_)
 refine a0b st0 rfl rfl (z := zAd) (by kernel_rfl) (cw 4 0) (by rw [a0f]; rfl) ?_
 intro g4 w1 st1
 clear st0
 go_wp2_with (with_reducible refine wSk 5 ?_)
 refine a0b st1 rfl rfl (z := zAd) (by kernel_rfl) (cw 4 0) (by rw [a0f]; rfl) ?_
 intro g5 w2 st2
 clear st1
 go_wp2
 go_frame
 go_loopw [1] (fun b wr => ∃ (r : Nat) (ar : Option Addr) (cr : Nat), r ≤ n ∧ (r = 0 ∨ (n - r) % 32 = 0) ∧ b = .slice ar (n - r) cr ∧ n - r ≤ cr ∧ RdB w ar (n - r) (l.drop r) ∧ St Nob w wr [(g4, cw 4 0, 72), (g5, cw 4 (elN m (beN (l.take r))), 59)]) (fun b _ => lnV b % 32)
 case atStart => exact ⟨0, a, c, by omega, .inl rfl, rfl, HC.out, HBB.out, by rw [List.take_zero, i0N, d0m]; exact st2⟩
 case round =>
  obtain ⟨r, ar, cr, hr, hcond, rfl, hcr, hrd, st⟩ := hrel
  clear st2
  have HCR := qH hcr
  have HRD := qH hrd
  have hn6 : n ≤ 1000000 := HN.out
  clear hcr hrd
  by_cases hm : (n - r) % 32 = 0
  ·have hne : ((((n - r : Nat) : Int) % 32) != 0) = false := by simp; omega
   have hcond2 : (n - r) % 32 = 0 := hm
   have HM := qH hm
   have HC2 := qH hcond2
   clear hm hcond hcond2
   generalize hk : n - r = k at *
   have HK := qH hk; clear hk
   go_wp2_with fail
   clear hne
   obtain ⟨wo, rfl⟩ : ∃ wo : World, wo = wr := ⟨_, rfl⟩
   go_loopw [1] (fun b wr => ∃ (r : Nat) (ar : Option Addr) (cr : Nat), r ≤ n ∧ (n - r) % 32 = 0 ∧ b = .slice ar (n - r) cr ∧ n - r ≤ cr ∧ RdB w ar (n - r) (l.drop r) ∧ St Nob w wr [(g4, cw 4 0, 72), (g5, cw 4 (elN m (beN (l.take r))), 59)]) (fun b _ => lnV b)
   case atStart => exact ⟨r, ar, cr, hr, by rw [HK.out]; exact HC2.out, by rw [HK.out], by rw [HK.out]; exact HCR.out, by rw [HK.out]; exact HRD.out, st⟩
   case round =>
    clear hr HCR HRD st HM HC2 HK
    obtain ⟨r, ar, cr, hr, hcond, rfl, hcr, hrd, st⟩ := hrel
    have HCR := qH hcr
    have HRD := qH hrd
    have HCO := qH hcond
    clear hcr hrd
    by_cases hz : r = n
    ·have HZ := qH hz
     have hkz : ((n - r : Nat) : Int) = 0 := by omega
     have hgt : (0 < ((n - r : Nat) : Int)) = False := by simp; omega
     clear hz hcond
     generalize n - r = k at *
     have hgt2 : ¬ (0 < (k : Int)) := by omega
     clear hgt hkz
     go_wp2_with (with_reducible refine wSk 41 ?_)
     refine a0h st 1 rfl rfl rfl Tryz.underlying59 rfl (by first | (rw [a0a]; kernel_rfl) | (simp only [List.length_append, a0a]; kernel_rfl)) ?_
     go_wp2_with fail
     refine (e0e m gp _ HOK.out (HPM.out.keep st.fr id) (beN (l.take r))).mono ?_
     rintro e' w3 ⟨rfl, hf3⟩
     have st3 := st.keep hf3
     clear st hf3
     go_wp2_with (with_reducible refine wSn ?_)
     refine a0d st3 0 rfl rfl rfl rfl rfl (by first | (simp only [a0a]; done) | (simp only [List.length_append, a0a]; done)) (by first | (rw [a0a]; kernel_rfl) | (simp only [List.length_append, a0a]; kernel_rfl)) (a0i _ _) ?_
     intro w4 st4
     clear st3
     have hr := st4.at 0 rfl
     have hfr := st4.fr
     clear st4
     go_wp2_with fail
     exact bodyPost_ret (a0q rfl rfl hr Tryz.underlying72 (by first | (rw [a0a]; kernel_rfl) | (simp only [List.length_append, a0a]; kernel_rfl))) rfl ⟨by rw [HZ.out, List.take_of_length_le (by rw [HL.out]; exact Nat.le_refl _)]; rfl, hfr⟩
    ·have hk32 : 32 ≤ n - r := by omega
     obtain ⟨gb, ob, hAR, -⟩ := HRD.out.at (by omega)
     have hcut : c0m ar 32 cr = if cr = 32 then ar else some ⟨gb, ob + 32, none⟩ := by rw [hAR]; simp [c0m, d0d]
     have HAR := qH hAR; clear hAR
     have HCUT := qH hcut; clear hcut
     have hfr := RdB.front HRD.out 32 hk32
     have hbe := RdB.behind HRD.out 32 hk32 HCR.out
     have htk := j0Z l r 32 (by rw [HL.out]; omega)
     rw [show (256 : Nat) ^ 32 = B64 ^ 4 by decide] at htk
     have HFR := qH hfr
     have HBE := qH hbe
     have HTK := qH htk
     have hcr := HCR.out
     have k1 := fun wx => d0h (P := Tryz.prog) wx Tryz.underlying24 c0r ar (n - r) cr .i64 32 (by omega)
     have k2 := fun wx => f0M (P := Tryz.prog) wx Tryz.underlying24 c0r ar (n - r) cr .i64 32 (by omega)
     clear hz hcond hfr hbe htk hcr
     have hgt : (0 < ((n - r : Nat) : Int)) := by omega
     have hk3 : 32 ≤ n - r := hk32
     have hci : (32 : Int) ≤ (cr : Int) := by have := HCR.out; omega
     clear hk32
     generalize hkk : n - r = k at *
     have HKK := qH hkk; clear hkk
     go_wp2_with fail
     refine wp_region_noPanic ?_
     refine a0p (fun wx => St Nob w wx [(g4, cw 4 0, 72), (g5, cw 4 (elN m (beN (l.take r))), 59)]) 13 (.w 0 (.w 1 (.t 2 (.w 3 (.w 4 (.w 5 (.t 6 (.w 8 (.w 9 (.w 10 (.r 7 (.r 11 (.r 12 (.m 13 .nil)))))))))))))) (by kernel_rfl) (by kernel_rfl) st.drew (fun _ _ _ _ _ h => h) ?_
     have hd2 := st.drew
     clear st
     refine a0l (v := ?_) rfl rfl (fun wx => ?_) ?_
     rotate_left 1
     ·(go_simp; with_reducible rfl)
     try simp only [clL]
     refine a0l (v := ?_) rfl rfl (fun wx => ?_) ?_
     rotate_left 1
     ·(go_simp; with_reducible rfl)
     try simp only [clL]
     refine a0s rfl rfl rfl rfl (cw 4 (elN m (beN (l.take r)))) (fun wx hS => St.rangeL hS 1 rfl 0 _ dZl) Tryz.underlying59 rfl (by first | (rw [a0a]; kernel_rfl) | (simp only [List.length_append, a0a]; kernel_rfl)) ?_
     try simp only [clL]
     refine a0l (v := ?_) rfl rfl (fun wx => ?_) ?_
     rotate_left 1
     ·(go_simp; with_reducible rfl)
     try simp only [clL]
     refine a0l (v := ?_) rfl rfl (fun wx => ?_) ?_
     rotate_left 1
     ·(go_simp; with_reducible rfl)
     try simp only [clL]
     refine a0l (v := ?_) rfl rfl (fun wx => ?_) ?_
     rotate_left 1
     ·(go_simp; with_reducible rfl)
     try simp only [clL]
     refine a0s rfl rfl rfl rfl (cw 4 (B64 ^ 4 * B64 ^ 4 % m.M)) (fun wx hS => (HPM.out.keep (St.fr hS) id).range 9 _ (x0y m)) Tryz.underlying72 rfl (by first | (rw [a0a]; kernel_rfl) | (simp only [List.length_append, a0a]; kernel_rfl)) ?_
     try simp only [clL]
     refine a0l (v := ?_) rfl rfl (fun wx => ?_) ?_
     rotate_left 1
     ·(go_simp; with_reducible rfl)
     try simp only [clL]
     refine a0l (v := ?_) rfl rfl (fun wx => ?_) ?_
     rotate_left 1
     ·(go_simp; with_reducible rfl)
     try simp only [clL]
     refine a0l (v := ?_) rfl rfl (fun wx => ?_) ?_
     rotate_left 1
     ·(go_simp; with_reducible rfl)
     try simp only [clL]
     refine a0A rfl rfl ?_
     go_simp
     refine (x0L m gp _ HOK.out (HPM.out.keep hd2.fr id) (beN (l.take r))).mono ?_
     rintro e' w3 ⟨rfl, hf3⟩
     have st3 := hd2.keep hf3
     clear hf3
     clear hd2
     refine ⟨st3, ?_⟩
     try simp only [clL]
     refine a0A rfl rfl ?_
     go_simp
     refine (k0i m gp _ HOK.out (HPM.out.keep st3.fr id) ar 32 cr ((l.drop r).take 32) (HFR.out.still st3.fr) (by decide)).mono ?_
     rintro e' w4 ⟨rfl, hf4⟩
     have st4 := st3.keep hf4
     clear hf4
     clear st3
     refine ⟨st4, ?_⟩
     try simp only [clL]
     refine a0A rfl rfl ?_
     go_simp
     refine (g0g m gp _ HOK.out (HPM.out.keep st4.fr id) ((beN (l.take r)) * B64 ^ 4) (beN ((l.drop r).take 32))).mono ?_
     rintro e' w5 ⟨rfl, hf5⟩
     have st5 := st4.keep hf5
     clear hf5
     clear st4
     refine ⟨st5, ?_⟩
     try simp only [clL]
     refine a0r rfl rfl ?_
     refine a0j st5 1 rfl rfl rfl rfl (by first | (simp only [a0a]; done) | (simp only [List.length_append, a0a]; done)) (by first | (rw [a0a]; kernel_rfl) | (simp only [List.length_append, a0a]; kernel_rfl)) (a0i _ _) ?_
     intro w6 st6
     clear st5
     try simp only [Act.put]
     refine a0k ?_
     refine NoPanic.normal ?_
     have hst := st6
     rw [← HTK.out] at hst
     clear st6
     go_wp2_with fail
     go_roundw
     case rel =>
      refine ⟨r + 32, c0m ar 32 cr, cr - 32, ?_, ?_, ?_, ?_, ?_, hst⟩
      ·have := HKK.out; omega
      ·have h1 := HCO.out; have h2 := HKK.out; omega
      ·have h2 := HKK.out; rw [show n - (r + 32) = k - 32 by omega, HCUT.out, HAR.out]; rfl
      ·have h2 := HKK.out; have h3 := HCR.out; omega
      ·have h2 := HKK.out
       have h3 := HBE.out
       rw [List.drop_drop] at h3
       rw [show n - (r + 32) = k - 32 by omega]
       exact h3
     case measure => simp [lnV]; omega
  ·have hne : ((((n - r : Nat) : Int) % 32) != 0) = true := by simp; omega
   have hr0 : r = 0 := by rcases hcond with h | h <;> omega
   subst hr0
   have hk32 : n % 32 ≤ n - 0 := by omega
   have hfr := RdB.front HRD.out (n % 32) hk32
   have hbe := RdB.behind HRD.out (n % 32) hk32 HCR.out
   have hcr := HCR.out
   have k1 := fun wx => d0h (P := Tryz.prog) wx Tryz.underlying24 c0r ar (n - 0) cr .i64 (n % 32) (by omega)
   have k2 := fun wx => f0M (P := Tryz.prog) wx Tryz.underlying24 c0r ar (n - 0) cr .i64 (n % 32) (by omega)
   have hm32 : n % 32 < 32 := Nat.mod_lt _ (by decide)
   have hmod : ((n % 32 : Nat) : Int) = (n : Int) % 32 := by omega
   simp only [List.drop_zero, Nat.sub_zero] at hfr hbe k1 k2 hne hm
   rw [hmod] at k1 k2
   have HFR := qH hfr
   have HBE := qH hbe
   have HM := qH hm
   have HM32 := qH hm32
   clear hm hfr hbe hcond hcr hk32 hr hmod hm32
   simp only [Nat.sub_zero]
   go_wp2_with fail
   refine (k0i m gp _ HOK.out (HPM.out.keep st.fr id) ar (n % 32) cr (l.take (n % 32)) (HFR.out.still st.fr) (Nat.le_of_lt HM32.out)).mono ?_
   rintro e' w3 ⟨rfl, hf3⟩
   have st3 := st.keep hf3
   clear st hf3
   go_wp2_with (with_reducible refine wSn ?_)
   refine a0d st3 1 rfl rfl rfl rfl rfl (by first | (simp only [a0a]; done) | (simp only [List.length_append, a0a]; done)) (by first | (rw [a0a]; kernel_rfl) | (simp only [List.length_append, a0a]; kernel_rfl)) (a0i _ _) ?_
   intro w4 st4
   clear st3
   have hst := st4
   clear st4
   go_wp2_with fail
   go_roundw
   case rel => exact ⟨n % 32, c0m ar (n % 32) cr, cr - n % 32, by omega, .inr (by omega), rfl, by have := HCR.out; omega, HBE.out, hst⟩
   case measure => have := HM.out; simp [lnV]; omega
end
section
open Go.RowKit Go.Mv Mvp
theorem n0c : [Value.int .u64 18446744069414583343, .int .u64 18446744073709551615, .int .u64 18446744073709551615, .int .u64 18446744073709551615, .int .u64 15580212934572586289, .int .u64 4294968273, .int .u64 0, .int .u64 0, .int .u64 0, .int .u64 8392367050913, .int .u64 1, .int .u64 0, .int .u64 0] = mdL mP := by kernel_rfl
theorem s0O : [Value.int .u64 13822214165235122497, .int .u64 13451932020343611451, .int .u64 18446744073709551614, .int .u64 18446744073709551615, .int .u64 5408259542528602431, .int .u64 4624529908474429119, .int .u64 4994812053365940164, .int .u64 1, .int .u64 0, .int .u64 9902555850136342848, .int .u64 8364476168144746616, .int .u64 16616019711348246470, .int .u64 11342065889886772165] = mdL mQ := by kernel_rfl
theorem Of0 (w : World) : Calls Tryz.prog 66 #[.int .i64 0] w fun e w' => ∃ g, e = .returned (.tuple #[.pointer (some ⟨g, 0, none⟩), .bool true]) ∧ w.heap.size ≤ g ∧ Has w' g (mdL mP) 115 ∧ Fr Nob w w' := by
 go_enter Tryz.func66, Tryz.ntmps66
 go_wp2
 go_ret2
 exact ⟨_, rfl, Nat.le_refl _, by rw [← n0c]; exact Has.new w _ _, (Fr.refl Nob w).alloc _⟩
theorem Of1 (w : World) : Calls Tryz.prog 66 #[.int .i64 1] w fun e w' => ∃ g, e = .returned (.tuple #[.pointer (some ⟨g, 0, none⟩), .bool true]) ∧ w.heap.size ≤ g ∧ Has w' g (mdL mQ) 115 ∧ Fr Nob w w' := by
 go_enter Tryz.func66, Tryz.ntmps66
 go_wp2
 go_ret2
 exact ⟨_, rfl, Nat.le_refl _, by rw [← s0O]; exact Has.new w _ _, (Fr.refl Nob w).alloc _⟩
end
section
open Go.RowKit Go.Mv Mvp
inductive KindOf : Int → Md → Prop where
 | zero : KindOf 0 mP
 | one : KindOf 1 mQ
theorem KindOf.ok {k : Int} {m : Md} (h : KindOf k m) : m.Ok := by cases h; exact c0a; exact x0w
theorem OfK {k : Int} {m : Md} (hk : KindOf k m) (w : World) : Calls Tryz.prog 66 #[.int .i64 k] w fun e w' => ∃ g, e = .returned (.tuple #[.pointer (some ⟨g, 0, none⟩), .bool true]) ∧ w.heap.size ≤ g ∧ Has w' g (mdL m) 115 ∧ Fr Nob w w' := by
 cases hk
 ·exact Of0 w
 ·exact Of1 w
theorem x0M {k : Int} {m : Md} (hk : KindOf k m) (w : World) : Calls Tryz.prog 61 #[.int .i64 k] w fun e w' => e = .returned (fv m.M) ∧ Fr Nob w w' := by
 cases hk
 ·exact y0Z w
 ·exact z0a w
attribute [local irreducible] a0J lw mix cw b0t b0G b0q a0P a0u beN laid b0o b0H a0M a0V elN mdL
end
end Go.Proofs.YtemcankmggmgoaaGreatDoor
namespace Go.Mv
open Go.RowKit
variable {P : Program}
def Kept (v : Value) (n sz : Nat) (w w' : World) : Prop :=
 ∀ b i, b < w.heap.size → (∀ o cap, v = .slice (some ⟨b, o, none⟩) n cap → i < o + n * sz) → w'.cell? ⟨b, i, none⟩ = w.cell? ⟨b, i, none⟩
theorem Kept.refl (v : Value) (n sz : Nat) (w : World) : Kept v n sz w w := fun _ _ _ _ => rfl
theorem Kept.ofFr {v : Value} {n sz : Nat} {w w' : World} (h : Fr Nob w w') : Kept v n sz w w' := fun b _ hb _ => World.cell?_of_block (a := ⟨b, _, none⟩) (h.block b hb id)
theorem l0P {w : World} (base : Nat) (t ty e : TypeId) (z : Value) (sz by_ : Nat) (ht : P.underlying t = some (.slice e)) (hi0 : (P.info? e).map (fun i => (i.zero, i.size, i.bytes)) = some (some z, sz, by_))
  (hzs : z.cells.size = sz) (hsz : 0 < sz)
  (v : Value) (n : Nat) (L : List Value) (hown : Own w base e sz v n L)
  (a : Option Addr) (m c : Nat) (news : List Value) (hnews : Rd w a (m * sz) news) (h1 : ∀ u ∈ news, u.oneCell' = true)
  (h63 : n + m ≤ maxLen) (hbytes : (n + m) * by_ ≤ 140737488355328) (hbase : base ≤ w.heap.size) :
  ∃ v' w', (Builtin.append_ #[t, t] ty #[v, .slice a m c]).run P w = .ok v' w' ∧ Own w' base e sz v' (n + m) (L ++ news) ∧ Fr (c0o v) w w' ∧ Kept v n sz w w' ∧
   (((∃ x o cap, v = .slice (some ⟨x, o, none⟩) n cap ∧ v' = .slice (some ⟨x, o, none⟩) (n + m) cap) ∨ (m = 0 ∧ v' = v)) ∨ (v'.ownBlock = some w.heap.size ∧ Fr Nob w w')) := by
 obtain ⟨i, hi, hz, hsize, hby⟩ := info_parts hi0
 subst hsize
 subst hby
 rcases Nat.eq_zero_or_pos m with rfl | hm
 ·obtain ⟨s, cap, rfl, hc, -, -⟩ := hown.form
  have hn : news = [] := List.eq_nil_of_length_eq_zero (by rw [hnews.len]; simp)
  subst hn
  exact ⟨_, w, d0X t ty e i ht hi s n cap hc a c, by simpa using hown, Fr.refl _ _, Kept.refl _ _ _ _, .inl (.inr ⟨rfl, rfl⟩)⟩
 have hms : 0 < m * i.size := Nat.mul_pos hm hsz
 obtain ⟨b, o', rfl, hat⟩ := hnews.at hms
 have hlen : (L ++ news).length = (n + m) * i.size := by rw [List.length_append, hown.1, hnews.len, Nat.add_mul]
 have hsmall : n + m ≤ 9223372036854775807 := by simp only [maxLen] at h63; omega
 have grown : ∀ (old : Nat), old < n + m →
   Own (w.drew.alloc (.cells (L.toArray ++ news.toArray ++ Builtin.zeroCells z.cells (grownCap w (n + m) old e - (n + m))) e)) base e i.size
    (.slice (some ⟨w.heap.size, 0, none⟩) (n + m) (grownCap w (n + m) old e)) (n + m) (L ++ news) ∧
   Fr Nob w (w.drew.alloc (.cells (L.toArray ++ news.toArray ++ Builtin.zeroCells z.cells (grownCap w (n + m) old e - (n + m))) e)) := by
  intro old ho
  have hge := grownCap_ge w (n + m) old e
  have hcm : grownCap w (n + m) old e ≤ maxLen := grownCap_le_maxLen w (n + m) old e h63
  have hz' : (Builtin.zeroCells z.cells (grownCap w (n + m) old e - (n + m))).size = (grownCap w (n + m) old e - (n + m)) * i.size := by simp [size_zeroCells, hzs]
  have hmul : (n + m) * i.size + (grownCap w (n + m) old e - (n + m)) * i.size = grownCap w (n + m) old e * i.size := by rw [← Nat.add_mul]; congr 1; omega
  refine ⟨⟨hlen, .inr ⟨w.heap.size, 0, _, _, rfl, hbase, Has.new w.drew _ e, hge, hcm, ?_, ?_⟩⟩, ((Fr.refl _ w).drew).alloc _⟩
  ·rw [List.length_append] at hlen
   simp only [Array.toList_append, List.length_append, Array.length_toList, hz', Nat.zero_add]
   omega
  ·simp only [Array.toList_append, List.drop_zero]
   rw [← hlen]
   exact List.take_left
 rcases hown.2 with ⟨rfl, rfl⟩ | ⟨g, o, cap, B, rfl, hbg, hg, hnc, hcm, hl, htake⟩
 ·have hx : L = [] := List.eq_nil_of_length_eq_zero (by simpa using hown.1)
  subst hx
  have hr := run_append_nil (P := P) w t ty e i z ht hi hz ⟨b, o', none⟩ m c news hnews.len hat.add hm (by omega) (by have hb := hbytes; simp only [Nat.zero_add] at hb; omega)
  have hgr := grown 0 (by omega)
  simp only [Nat.zero_add, List.nil_append, Array.empty_append] at hgr ⊢
  exact ⟨_, _, hr, hgr.1, hgr.2.mono (fun _ _ t => t.elim), Kept.ofFr hgr.2, .inr ⟨rfl, hgr.2⟩⟩
 ·by_cases hroom : n + m ≤ cap
  ·have hle : (n + m) * i.size ≤ cap * i.size := Nat.mul_le_mul_right _ hroom
   have hnl := hnews.len
   have hfit : o + n * i.size + news.length ≤ B.length := by rw [Nat.add_mul] at hle; omega
   obtain ⟨w', hr, hh, hf, hzz⟩ := c0F (P := P) t ty e i ht hi g o n cap B e hg _ m c news hnews h1 hroom hfit
   refine ⟨_, _, hr, ⟨hlen, .inr ⟨g, o, cap, _, rfl, hbg, hh, hroom, hcm, ?_, ?_⟩⟩, hf.mono (fun k _ t => by have e : k = g := t; subst e; rfl), ?_, .inl (.inl ⟨g, o, cap, rfl, rfl⟩)⟩
   ·rw [d0F _ _ _ hfit]; exact hl
   ·have := g0v B o (n * i.size) news hfit
    rw [htake] at this
    rw [← this, hnl, Nat.add_mul]
   ·intro b' j hb' hj
    by_cases hbg' : b' = g
    ·subst hbg'
     have hj' := hj o cap rfl
     rw [hg.get, hh.get]
     unfold splice
     rw [List.getElem?_append_left (by simp; omega), List.getElem?_take, if_pos hj']
    ·exact World.cell?_of_block (a := ⟨b', j, none⟩) (hf.block b' hb' hbg')
  ·have hle : n * i.size ≤ cap * i.size := Nat.mul_le_mul_right _ hnc
   have hrd : Rd w (some ⟨g, o, none⟩) (n * i.size) L := by rw [← htake]; exact Rd.ofHas hg o (by omega)
   have holds : ∀ j u, L[j]? = some u → w.cell? ((⟨g, o, none⟩ : Addr).add j) = some u := by
    rcases Nat.eq_zero_or_pos (n * i.size) with h0 | h0
    ·have : L = [] := List.eq_nil_of_length_eq_zero (by rw [hown.1, h0])
     subst this; intro j u hu; simp at hu
    ·obtain ⟨b2, o2, he, hc2⟩ := hrd.at h0
     simp only [Option.some.injEq, Addr.mk.injEq] at he
     obtain ⟨rfl, rfl, -⟩ := he
     exact hc2.add
   have hr := run_append_grow (P := P) w t ty e i z ht hi hz ⟨g, o, none⟩ n cap L hown.1 holds ⟨b, o', none⟩ m c news hnews.len hat.add (by omega) (by omega) (growslice_fits (by omega) hbytes)
   have hgr := grown cap (by omega)
   exact ⟨_, _, hr, hgr.1, hgr.2.mono (fun _ _ t => t.elim), Kept.ofFr hgr.2, .inr ⟨rfl, hgr.2⟩⟩
section
variable {w : World} {ops : Array Oper} {rest : List Oper} {o : Oper} {a : Act} {Q : Exit → Act → World → Prop}
theorem l0Q {s x : Operand} {t : TypeId} (hgd : o.guard = none) (ho : o.op = .call { callee := .builtin .append, args := #[s, x], argTypes := #[t, t] })
  {e : TypeId} {z : Value} {sz by_ : Nat} (ht : P.underlying t = some (.slice e)) (hi0 : (P.info? e).map (fun i => (i.zero, i.size, i.bytes)) = some (some z, sz, by_))
  (hzs : z.cells.size = sz) (hsz : 0 < sz)
  {v : Value} {n base : Nat} {L : List Value} (hown : Own w base e sz v n L) (hs : a.eval s = v)
  {xa : Option Addr} {m c : Nat} {news : List Value} (hx : a.eval x = .slice xa m c) (hnews : Rd w xa (m * sz) news) (h1 : ∀ u ∈ news, u.oneCell' = true)
  (h63 : n + m ≤ maxLen) (hbytes : (n + m) * by_ ≤ 140737488355328) (hbase : base ≤ w.heap.size)
  (h : ∀ v' w', Own w' base e sz v' (n + m) (L ++ news) → Fr (c0o v) w w' → Kept v n sz w w' → (((∃ x o cap, v = .slice (some ⟨x, o, none⟩) n cap ∧ v' = .slice (some ⟨x, o, none⟩) (n + m) cap) ∨ (m = 0 ∧ v' = v)) ∨ (v'.ownBlock = some w.heap.size ∧ Fr Nob w w')) → wpList P ops Q rest (a.put o.dst v') w') : wpList P ops Q (o :: rest) a w := by
 refine wpList_plain hgd fun K hK => ?_
 obtain ⟨v', w', hr, h2, h3, h4, h5⟩ := l0P (P := P) base t o.type e z sz by_ ht hi0 hzs hsz v n L hown xa m c news hnews h1 h63 hbytes hbase
 unfold Oper.wp execOp
 simp only [ho, resolve, invoke, builtin, Sem.run_bind, Sem.run_pure, Result.andThen_ok, List.map_toArray, List.map_cons, List.map_nil, hs, hx, hr]
 exact hK _ _ (h v' w' h2 h3 h4 h5)
end
end Go.Mv
namespace Go.Mv
open Go.RowKit
section
variable {P : Program} {w : World} {ops : Array Oper} {o : Oper} {a : Act} {K : Act → World → Prop} {Q : Exit → Act → World → Prop} {E : Prop}
end
end Go.Mv
namespace Go.Mv
open Go.RowKit
variable {P : Program}
end Go.Mv
namespace Go.Mv
open Go.RowKit
variable {P : Program}
theorem n0d {w : World} {ops : Array Oper} {rest : List Oper} {o : Oper} {a : Act} {Q : Exit → Act → World → Prop} {t e : TypeId} {k : Nat} {parts : Array (Nat × Operand)} (hgd : o.guard = none) (ho : o.op = .buildSlice t k parts)
  (hu : P.underlying t = some (.slice e)) {z : Value} {sz by_ : Nat} (hi0 : (P.info? e).map (fun i => (i.zero, i.size, i.bytes)) = some (some z, sz, by_)) (vs : List Value) (hp : (parts.toList.map fun p => (p.1, a.eval p.2)) = (vs.zipIdx 0).map fun x => (x.2, x.1))
  (hv : ∀ v ∈ vs, v.cells.size = sz) (hk : vs.length = k) (L : List Value) (hL : (vs.flatMap fun v => v.cells.toList) = L)
  (h : ∀ w', Has w' w.heap.size L e → Fr Nob w w' → w'.heap.size = w.heap.size + 1 → wpList P ops Q rest (a.put o.dst (.slice (some ⟨w.heap.size, 0, none⟩) k k)) w') (hk0 : 0 < k * sz := by decide) (hk24 : k * sz ≤ 16777216 := by decide) : wpList P ops Q (o :: rest) a w := by
 obtain ⟨i, hi, hz0⟩ : ∃ i, P.info? e = some i ∧ (i.zero, i.size, i.bytes) = (some z, sz, by_) := by simpa using hi0
 simp only [Prod.mk.injEq] at hz0
 obtain ⟨hz1, hsz, hby⟩ := hz0
 have hs0 : 0 < sz := Nat.pos_of_mul_pos_left hk0
 have hf : Instr.fill (fun j => some (j * i.size, i.size)) ((Array.range (k * i.size)).map (z.cells[· % z.cells.size]!)) (parts.map fun (i, x) => (i, a.eval x)).toList = some L.toArray := by
  rw [show (parts.map fun (i, x) => (i, a.eval x)).toList = (parts.toList.map fun p => (p.1, a.eval p.2)) by simp, hp, hsz, ← hL]
  exact Great.fill_whole hs0 vs _ hv (by simp [hk])
 exact wpList_buildSlice hgd t e k _ ho _ i _ hu hi hz1 (by rw [hsz]; omega) (by rw [hsz]; omega) hf (h _ (Has.new w L.toArray e) ((Fr.refl _ w).alloc _) (by simp))
end Go.Mv
namespace Go.Mv
open Go.RowKit
variable {P : Program}
end Go.Mv
namespace Go.Mv
open Go.RowKit Mvp
def BPart (w : World) (v : Value) (l : List UInt8) : Prop := ∃ a n c, v = .slice a n c ∧ n ≤ c ∧ RdB w a n l
def BParts (w : World) (vs : List Value) (ls : List (List UInt8)) : Prop := vs.length = ls.length ∧ ∀ i v, vs[i]? = some v → BPart w v (ls.getD i [])
theorem BPart.still {w w' : World} {v : Value} {l : List UInt8} (h : BPart w v l) (hf : Fr Nob w w') : BPart w' v l := by
 obtain ⟨a, n, c, e, hc, hr⟩ := h
 exact ⟨a, n, c, e, hc, hr.still hf⟩
theorem BPart.one {w : World} {v : Value} {l : List UInt8} (h : BPart w v l) : v.cells = #[v] := by
 obtain ⟨a, n, c, rfl, -, -⟩ := h
 rfl
theorem BParts.still {w w' : World} {vs : List Value} {ls : List (List UInt8)} (h : BParts w vs ls) (hf : Fr Nob w w') : BParts w' vs ls := ⟨h.1, fun i v hv => (h.2 i v hv).still hf⟩
theorem BParts.one {w : World} {v : Value} {l : List UInt8} (h : BPart w v l) : BParts w [v] [l] := ⟨rfl, fun i u hu => by
 cases i with
 | zero => simp at hu; subst hu; exact h
 | succ i => simp at hu⟩
theorem BParts.two {w : World} {v u : Value} {l k : List UInt8} (h : BPart w v l) (h2 : BPart w u k) : BParts w [v, u] [l, k] := ⟨rfl, fun i x hx => by
 match i with
 | 0 => simp at hx; subst hx; exact h
 | 1 => simp at hx; subst hx; exact h2
 | i + 2 => simp at hx⟩
end Go.Mv
namespace Mvp
def b0R (m : Md) (l : List UInt8) : Bool := decide (l.length = 32) && decide (beN l < m.M)
end Mvp
namespace Go.Proofs.YtemcankmggmgoaaGreatDoor
section
open Go.RowKit Go.Mv Mvp
attribute [local irreducible] a0J lw mix cw b0t b0G b0q a0P a0u beN laid b0o b0H a0M a0V elN mdL b0R
end
section
open Go.RowKit Go.Mv Mvp
attribute [local irreducible] a0J lw mix cw b0t b0G b0q a0P a0u beN laid b0o b0H a0M a0V elN mdL b0R
theorem b0z {P : Program} {o : Oper} {a : Act} {t : TypeId} {parts : Array (Nat × Operand)} (ho : o.op = .build t parts) (cells : Array Value)
  (hb : P.built t (parts.toList.map fun p => (p.1, a.eval p.2)) = some cells) (w : World) : (execOp a.eval o).run P w = .ok (.value (.agg cells)) w := by
 have hr := run_build (P := P) w t (parts.map fun (i, x) => (i, a.eval x)) cells (by
  have : (parts.map fun (i, x) => (i, a.eval x)).toList = (parts.toList.map fun p => (p.1, a.eval p.2)) := by simp
  rw [this]; exact hb)
 unfold execOp
 simp only [ho, Sem.run_bind, Sem.run_pure, Result.andThen_ok, hr]
theorem b0i {P : Program} {fn : Func} {p : Tmp} {ty : TypeId} {s : Tmp} (h : fn.results = #[.cell p ty, .tmp s]) {tmps : Array Value} {w : World} {g : Nat} {L : List Value} {T : TypeId}
  (hp : tmps.getD p undef = .pointer (some ⟨g, 0, none⟩)) (hg : Has w g L T) {d : TypeDesc} (hu : P.underlying ty = some d) (hd : (match d with | .struct _ | .array _ _ => true | _ => false) = true) (hi : (P.info? ty).map (·.size) = some L.length) {v : Value} (hv : tmps.getD s undef = v) :
  (results fn tmps).run P w = .ok (.tuple #[.agg L.toArray, v]) w := by
 obtain ⟨lo, hi', hh, -⟩ := hg
 have hp' : tmps[p]?.getD undef = .pointer (some ⟨g, 0, none⟩) := by simpa using hp
 have hv' : tmps[s]?.getD undef = v := by simpa using hv
 simp [results, h, hp', hv', asAddr, run_loadVar_row w g T ty L.toArray _ _ hh hu (by cases d <;> first | rfl | (simp at hd)) (by simpa using hi)]
theorem q0e (a : Nat) : Tryz.prog.built 61 [(0, i4 a)] = some (cw 4 a).toArray := by kernel_rfl
theorem g0M (m : Md) (hk : KindOf 1 m) (w : World) : Calls Tryz.prog 53 #[] w fun e w' => ∃ gp, e = .returned (.pointer (some ⟨gp, 0, none⟩)) ∧ w.heap.size ≤ gp ∧ Has w' gp (mdL m) 115 ∧ Fr Nob w w' := by
 have HK := qH hk
 clear hk
 go_enter Tryz.func53, Tryz.ntmps53
 go_wp2_with fail
 refine (OfK HK.out _).mono ?_
 rintro e w1 ⟨gp, rfl, hle, hm, hf⟩
 have HL := qH hle
 have HM := qH hm
 have HF := qH hf
 clear hm hf hle
 go_wp2_with fail
 go_ret
 exact ⟨gp, rfl, HL.out, HM.out, HF.out⟩
theorem q0f (m : Md) (hk : KindOf 1 m) (a : Option Addr) (n c : Nat) (l : List UInt8) (w : World) (hb : RdB w a n l) (hc : n ≤ c) (hn : n ≤ 1000000) :
  Calls Tryz.prog 24 #[.slice a n c] w fun e w' => e = .returned (i4 (elN m (beN l))) ∧ Fr Nob w w' := by
 have HK := qH hk
 have HOK := qH hk.ok
 clear hk
 have HB := qH hb
 have HN := qH (show l.length = n from hb.len)
 clear hb
 have HC := qH hc
 have HNN := qH hn
 have HLM := qH (Nat.lt_trans (Nat.mod_lt (beN l) (by have := HOK.out.one; omega)) HOK.out.lt)
 clear hc hn
 have st0 := St.start Nob w
 go_enter Tryz.func24, Tryz.ntmps24
 go_wp2_with (with_reducible refine wSk 2 ?_)
 refine a0b st0 rfl rfl (z := zAd) (by kernel_rfl) (cw 4 0) (by rw [a0f]; rfl) ?_
 intro g2 w1 st1
 clear st0
 go_wp2_with fail
 refine (g0M m HK.out _).mono ?_
 rintro e' w2 ⟨gp, rfl, hle, hm, hf2⟩
 have st2 : St Nob w w2 [(g2, cw 4 0, 61), (gp, mdL m, 115)] := st1.new hf2 hm hle
 clear st1 hf2 hm hle
 go_wp2_with fail
 refine (l0O m gp _ HOK.out (st2.at 1 rfl) a n c l (HB.out.still st2.fr) HC.out HNN.out).mono ?_
 rintro e' w3 ⟨rfl, hf3⟩
 have st3 := st2.keep hf3
 clear st2 hf3
 go_wp2_with fail
 refine (d0N m gp _ HOK.out (st3.at 1 rfl) (beN l % m.M) HLM.out).mono ?_
 rintro e' w4 ⟨rfl, hf4⟩
 have st4 := st3.keep hf4
 clear st3 hf4
 go_wp2_with (with_reducible refine wSk 10 ?_)
 refine c0f rfl rfl _ (q0e _) ?_
 go_wp2_with (with_reducible refine wSn ?_)
 refine a0d st4 0 rfl rfl rfl rfl rfl (by first | (simp only [a0a]; done) | (simp only [List.length_append, a0a]; done)) (by first | (rw [a0a]; kernel_rfl) | (simp only [List.length_append, a0a]; kernel_rfl)) (a0i _ _) ?_
 intro w5 st5
 clear st4
 have hr := st5.at 0 rfl
 have hfr := st5.fr
 clear st5
 go_wp2_with fail
 exact bodyPost_ret (a0F rfl rfl hr Tryz.underlying61 rfl (by first | (rw [a0a]; kernel_rfl) | (simp only [List.length_append, a0a]; kernel_rfl))) rfl ⟨by rw [q0a]; rfl, hfr⟩
end
section
open Go.RowKit Go.Mv Mvp
attribute [local irreducible] a0J lw mix cw b0t b0G b0q a0P a0u beN laid b0o b0H a0M a0V elN mdL b0R
end
end Go.Proofs.YtemcankmggmgoaaGreatDoor
namespace Go.Mv
open Go.RowKit
theorem z0b {w : World} {b o n : Nat} {vs : List Value} (h : Rd w (some ⟨b, o, none⟩) n vs) (k : Nat) (cs : List Value) (hcs : (vs.drop k).take cs.length = cs) : At w b (o + k) cs := by
 intro i v hv
 rcases h.2 with h0 | ⟨b', o', he, hc⟩
 ·have hl := h.len
  rw [h0] at hl
  rw [List.length_eq_zero_iff.1 hl] at hcs
  simp at hcs
  subst hcs
  simp at hv
 ·simp only [Option.some.injEq, Addr.mk.injEq] at he
  obtain ⟨rfl, rfl, -⟩ := he
  have := hc.sub k cs.length
  rw [hcs] at this
  exact this i v hv
theorem i0Z {w : World} {b o n : Nat} {vs : List Value} (h : Rd w (some ⟨b, o, none⟩) n vs) (k : Nat) (cs : List Value) (hcs : (vs.drop k).take cs.length = cs) : w.rangeAt b (o + k) cs :=
 fun i v hv => z0b h k cs hcs i v hv
end Go.Mv
namespace Go.Proofs.YtemcankmggmgoaaGreatDoor
open Go.RowKit Go.Mv Mvp
attribute [local irreducible] a0J lw mix cw b0t b0G b0q a0P a0u beN laid b0o b0H a0M a0V elN mdL b0R
end Go.Proofs.YtemcankmggmgoaaGreatDoor
namespace Mvp
theorem q0g (N i : Nat) : lw (N / 2) i = lw N i / 2 ||| (lw N (i + 1) * 9223372036854775808 % 18446744073709551616) := by
 have h1 : lw N (i + 1) * 9223372036854775808 % 18446744073709551616 = 2 ^ 63 * (lw N (i + 1) % 2) := by
  have : (18446744073709551616 : Nat) = 9223372036854775808 * 2 := by decide
  rw [this, Nat.mul_comm, Nat.mul_mod_mul_left]
 have h2 : lw N i / 2 < 2 ^ 63 := by have := c0n N i; omega
 rw [h1, Nat.or_comm, ← Nat.two_pow_add_eq_or_of_lt h2]
 have e1 : lw N (i + 1) = N / B64 ^ i / 18446744073709551616 % 18446744073709551616 := by
  unfold lw
  rw [Nat.pow_succ, ← Nat.div_div_eq_div_mul]
 have e2 : lw (N / 2) i = N / B64 ^ i / 2 % 18446744073709551616 := by
  unfold lw
  rw [Nat.div_div_eq_div_mul, Nat.mul_comm, ← Nat.div_div_eq_div_mul]
 have e3 : lw N i = N / B64 ^ i % 18446744073709551616 := rfl
 rw [e1, e2, e3]
 generalize N / B64 ^ i = x
 omega
theorem n0e (n q k b : Nat) (hq : q < 2 ^ k) (hb : b < 2) (hk : k / 64 < n) : (a0J n q).set (k / 64) (lw q (k / 64) ||| b * 2 ^ (k % 64)) = a0J n (q + b * 2 ^ k) := by
 have e0 : 2 ^ k = B64 ^ (k / 64) * 2 ^ (k % 64) := by
  rw [show B64 = 2 ^ 64 from rfl, ← Nat.pow_mul, ← Nat.pow_add]
  congr 1; omega
 have hj : q / B64 ^ (k / 64) < 2 ^ (k % 64) := Nat.div_lt_of_lt_mul (by rw [← e0]; exact hq)
 have hr : 2 ^ (k % 64) * 2 ≤ B64 := by
  rw [← Nat.pow_succ, show B64 = 2 ^ 64 from rfl]
  exact Nat.pow_le_pow_right (by decide) (by omega)
 have hy : b * 2 ^ (k % 64) ≤ 2 ^ (k % 64) := by
  have := Nat.mul_le_mul_right (2 ^ (k % 64)) (show b ≤ 1 by omega)
  rwa [Nat.one_mul] at this
 rw [e0, Nat.mul_left_comm b]
 apply List.ext_getElem?
 intro i
 rw [List.getElem?_set, b0c]
 rcases Nat.lt_or_ge i n with hi | hi
 ·rw [c0d _ _ _ hi, c0d _ _ _ hi]
  rcases Nat.lt_trichotomy i (k / 64) with h | h | h
  ·rw [if_neg (by omega), g0C _ _ _ _ h]
  ·subst h
   rw [if_pos rfl, if_pos hi]
   congr 1
   have h2 := c0q q (b * 2 ^ (k % 64)) (k / 64) 0
   rw [Nat.add_zero] at h2
   rw [h2]
   rw [Nat.mul_comm b] at hy h2 ⊢
   have h3 : lw q (k / 64) = q / B64 ^ (k / 64) := Nat.mod_eq_of_lt (by generalize q / B64 ^ (k / 64) = y at *; generalize 2 ^ (k % 64) = z at *; omega)
   rw [h3, Nat.or_comm, ← Nat.two_pow_add_eq_or_of_lt hj]
   simp only [lw, Nat.pow_zero, Nat.div_one]
   generalize q / B64 ^ (k / 64) = y at *
   generalize 2 ^ (k % 64) * b = u at *
   generalize 2 ^ (k % 64) = z at *
   rw [Nat.add_comm]
   exact (Nat.mod_eq_of_lt (by omega)).symm
  ·rw [if_neg (by omega)]
   congr 1
   obtain ⟨j, rfl⟩ : ∃ j, i = k / 64 + (1 + j) := ⟨i - k / 64 - 1, by omega⟩
   rw [c0q, ← b0Z q]
   rw [c0K (q / B64 ^ (k / 64)) 1 _ (by rw [Nat.pow_one]; omega) (by omega), c0K _ 1 _ (by rw [Nat.pow_one]; omega) (by omega)]
 ·rw [if_neg (by omega), List.getElem?_eq_none (by rw [b0c]; exact hi), List.getElem?_eq_none (by rw [b0c]; exact hi)]
theorem f0O (P k : Nat) : P / 4 % 2 ^ (k + 1) = P / 4 % 2 ^ k + (P / 2 ^ (k + 2) % 2) * 2 ^ k := by
 have e : P / 2 ^ (k + 2) = P / 4 / 2 ^ k := by
  rw [Nat.div_div_eq_div_mul, Nat.pow_add, Nat.mul_comm]
 rw [e, Nat.pow_succ, Nat.mod_mul, Nat.mul_comm (2 ^ k)]
end Mvp
namespace Go.Mv
open Go.RowKit Mvp
variable {P : Program}
theorem j0a {t e : TypeId} (hu : P.underlying t = some (.array 4 e)) (he : P.underlying e = some (.int .u64)) (hi0 : (P.info? e).map (·.size) = some 1) (a b : Nat) (w : World) :
  (Op.equal t (.agg (cw 4 a).toArray) (.agg (cw 4 b).toArray)).run P w = .ok (decide (a % B64 ^ 4 = b % B64 ^ 4)) w := by
 obtain ⟨j, hj, hsz⟩ : ∃ j, P.info? e = some j ∧ j.size = 1 := by simpa using hi0
 have hc : P.cellsOf e = 1 := by simp [Program.cellsOf, hj, hsz]
 have hp : ∀ (x k : Nat), k < 4 → (part e (cw 4 x).toArray k).run P w = .ok (.int .u64 (lw x k : Nat)) w := by
  intro x k hk
  have hv := a0D 4 x k hk
  simp [part, isAgg, run_underlying he, sizeOf, typeInfo, hj, hsz, hv]
 have hq0 : ∀ (d : Nat) (x y : Int), (Op.equalIn (d + 1) e (.int .u64 x) (.int .u64 y)).run P w = .ok (x == y) w := fun d x y => by
  simp [Op.equalIn, run_underlying he]
 have hq : ∀ x y : Int, (Op.equalIn 9999 e (.int .u64 x) (.int .u64 y)).run P w = .ok (x == y) w := hq0 9998
 have hbe : ∀ k, ((lw a k : Int) == (lw b k : Int)) = decide (lw a k = lw b k) := by
  intro k
  rw [Bool.eq_iff_iff]; simp; omega
 show (Op.equalIn (9999 + 1) t _ _).run P w = _
 rw [run_equalIn_array w 9999 _ _ hu hj, hc]
 have hfin : decide (a % B64 ^ 4 = b % B64 ^ 4) = (decide (lw a 0 = lw b 0) && (decide (lw a 1 = lw b 1) && (decide (lw a 2 = lw b 2) && decide (lw a 3 = lw b 3)))) := by
  rw [Bool.eq_iff_iff]
  simp only [decide_eq_true_eq, Bool.and_eq_true]
  constructor
  ·intro h
   refine ⟨?_, ?_, ?_, ?_⟩ <;> (rw [← d0Z a _ 4 (by decide), h, d0Z b _ 4 (by decide)])
  ·rintro ⟨h0, h1, h2, h3⟩
   refine d0G (e0a fun i hi => ?_)
   have : i = 0 ∨ i = 1 ∨ i = 2 ∨ i = 3 := by omega
   rcases this with rfl | rfl | rfl | rfl <;> assumption
 rw [hfin]
 show (Op.eqItems 9999 e 1 _ _ [0, 1, 2, 3]).run P w = _
 have p0 := fun x => hp x 0 (by decide)
 have p1 := fun x => hp x 1 (by decide)
 have p2 := fun x => hp x 2 (by decide)
 have p3 := fun x => hp x 3 (by decide)
 clear hp hq0 hfin
 by_cases h0 : lw a 0 = lw b 0 <;> by_cases h1 : lw a 1 = lw b 1 <;> by_cases h2 : lw a 2 = lw b 2 <;> by_cases h3 : lw a 3 = lw b 3 <;> simp [Op.eqItems, p0, p1, p2, p3, hq, hbe, h0, h1, h2, h3, -beq_iff_eq]
end Go.Mv
namespace Go.Proofs.YtemcankmggmgoaaGreatDoor
open Go.RowKit Go.Mv Mvp
attribute [local irreducible] a0J lw mix cw b0t b0G b0q a0P a0u beN laid b0o b0H a0M a0V elN
theorem g0N (N : Nat) (w : World) (hN : N < B64 ^ 4) :
  Calls Tryz.prog 131 #[i4 N, .int .i64 2] w fun e w' => e = .returned (i4 (N / 4)) ∧ Fr Nob w w' := by
 have HN := qH hN; clear hN
 have st0 := St.start Nob w
 go_enter Tryz.func131, Tryz.ntmps131
 go_wp2_with (with_reducible refine wSk 2 ?_)
 refine a0m st0 rfl rfl rfl (cw 4 N) rfl ?_
 intro g2 w1 st1
 clear st0
 go_wp2_with (with_reducible refine wSk 4 ?_)
 refine a0b st1 rfl rfl (z := zAd) (by kernel_rfl) (cw 4 0) (by rw [a0f]; rfl) ?_
 intro g4 w2 st2
 clear st1
 go_wp2
 go_loopw [7] (fun i wr => ∃ j : Nat, j ≤ 2 ∧ i = .int .i64 (j : Int) ∧ St Nob w wr [(g2, cw 4 (N / 2 ^ j), 72), (g4, cw 4 0, 72)]) (fun i _ => 2 - (intOf i).toNat)
 case atStart => exact ⟨0, by omega, rfl, by rw [Nat.pow_zero, Nat.div_one]; exact st2⟩
 case round =>
  obtain ⟨j, hj, rfl, st⟩ := hrel
  clear st2
  by_cases hlt : j < 2
  ·have hltJ : (j : Int) < 2 := by omega
   have hV : N / 2 ^ j < B64 ^ 4 := Nat.lt_of_le_of_lt (Nat.div_le_self _ _) HN.out
   have hnext : N / 2 ^ (j + 1) = N / 2 ^ j / 2 := by rw [Nat.pow_succ, Nat.div_div_eq_div_mul]
   generalize hVe : N / 2 ^ j = V at *
   have HNEXT := qH hnext; have HV := qH hV; clear hnext hV hVe
   go_wp2
   go_loopw [9] (fun i wr => ∃ k : Nat, k ≤ 4 ∧ i = .int .i64 (k : Int) ∧ St Nob w wr [(g2, cw 4 (mix (V / 2) V k), 72), (g4, cw 4 0, 72)]) (fun i _ => 4 - (intOf i).toNat)
   case atStart => exact ⟨0, by omega, rfl, by rw [d0f]; exact st⟩
   case round =>
    obtain ⟨k, hk, rfl, stk⟩ := hrel
    clear st
    by_cases hltk : k < 4
    ·have hltK : (k : Int) < 4 := by omega
     have c1 : wr.cell? ⟨g2, k, none⟩ = some (.int .u64 (lw V k : Nat)) := by have h := (stk.at 0 rfl).cell (a0D 4 (mix (V / 2) V k) k hltk); rwa [f0K, if_neg (Nat.lt_irrefl k)] at h
     have f1 := (stk.at 0 rfl).free k (by rw [a0a]; exact hltk)
     have stm := stk.set 0 rfl k (.int .u64 ((lw V k : Int) / 2))
     have hhw := q0g V k
     have hor : bits .or .u64 ((lw V k : Int) / 2) (IntKind.u64.wrap ((lw V (k + 1) : Int) * 9223372036854775808)) = ((lw (V / 2) k : Nat) : Int) := by
      have h := bits_or_u64_nat (lw V k / 2) (lw V (k + 1) * 9223372036854775808 % 18446744073709551616) (Nat.lt_of_le_of_lt (Nat.div_le_self _ _) (c0n _ _)) (Nat.mod_lt _ (by decide))
      rw [hhw, ← h, IntKind.wrap_u64]
      rfl
     have HOR := qH hor
     clear hor
     have STM := qH stm
     have HSET := qH (d0g 4 (V / 2) V k hltk)
     by_cases h3 : k < 3
     ·have h3I : (k : Int) < 3 := by omega
      have c2 := (stm.at 0 rfl).cell (i := k) (v := .int .u64 ((lw V k : Int) / 2)) (by rw [List.getElem?_set_self (by rw [a0a]; exact hltk)])
      have c3 := (stm.at 0 rfl).cell (i := k + 1) (v := .int .u64 (lw V (k + 1) : Nat)) (by rw [List.getElem?_set_ne (by omega), a0D 4 _ (k + 1) (by omega), f0K, if_neg (by omega)])
      have f2 := (stm.at 0 rfl).free k (by rw [List.length_set, a0a]; exact hltk)
      have e1 : IntKind.i64.wrap ((k : Int) + 1) = (k : Int) + 1 := IntWalk.i64_in _ (by omega)
      have e4 : ((k : Int) + 1).toNat = k + 1 := by omega
      have hlo : (0 : Int) ≤ (k : Int) + 1 ∧ (k : Int) + 1 < 4 := by omega
      clear stm stk
      go_wp2_with fail
      generalize hwm : wr.setCell ⟨g2, k, none⟩ (.int .u64 ((lw V k : Int) / 2)) = wm at *
      clear hwm c1 f1
      refine wp_region_still_tail 10 (by kernel_rfl) (by kernel_rfl) ?_
      simp only [List.take_succ_cons, List.take_zero, List.drop_succ_cons, List.drop_zero]
      repeat still_step
      refine wpStill_nil ?_
      have hst := (STM.out.set 0 rfl k (.int .u64 (bits .or .u64 ((lw V k : Int) / 2) (IntKind.u64.wrap ((lw V (k + 1) : Int) * 9223372036854775808))))).drew
      rw [HOR.out] at hst
      simp only [List.set_cons_zero, List.set_set] at hst
      rw [HSET.out] at hst
      have HST := qH hst
      clear hst
      go_wp2
      go_roundw
      case rel => exact ⟨k + 1, by omega, by go_num, by rw [HOR.out]; exact HST.out⟩
      case measure => simp [intOf]; omega
     ·have h3I : ¬ ((k : Int) < 3) := by omega
      have hk3 : k = 3 := by omega
      have hz : lw V (k + 1) = 0 := c0K V 4 _ HV.out (by omega)
      have hst := STM.out
      rw [hz, Nat.zero_mul, Nat.zero_mod, Nat.or_zero] at hhw
      rw [show ((lw V k : Int) / 2) = ((lw (V / 2) k : Nat) : Int) by rw [hhw]; rfl] at hst
      simp only [List.set_cons_zero] at hst
      rw [HSET.out] at hst
      rw [show ((lw (V / 2) k : Nat) : Int) = ((lw V k : Int) / 2) by rw [hhw]; rfl] at hst
      have HST := qH hst
      clear hst stm hhw hz hk3 stk
      go_wp2
      go_roundw
      case rel => exact ⟨k + 1, by omega, by go_num, HST.out⟩
      case measure => simp [intOf]; omega
    ·have hge : ¬ ((k : Int) < 4) := by omega
     have hk4 : k = 4 := by omega
     rw [hk4, g0a, ← HNEXT.out] at stk
     clear hk4
     go_wp2
     go_roundw
     case rel => exact ⟨j + 1, by omega, by go_num, stk⟩
     case measure => simp [intOf]; omega
  ·have hge : ¬ ((j : Int) < 2) := by omega
   have hj2 : j = 2 := by omega
   rw [hj2] at st
   clear hj2
   go_wp2_with (with_reducible refine wSk 31 ?_)
   refine a0h st 0 rfl rfl rfl Tryz.underlying72 rfl (by rw [a0a]; kernel_rfl) ?_
   go_wp2_with (with_reducible refine wSn ?_)
   refine a0d st 1 rfl rfl rfl rfl rfl (by rw [a0a, a0a]) (by rw [a0a]; kernel_rfl) (a0i _ _) ?_
   intro w9 st9
   clear st
   have hr := st9.at 1 rfl
   have hfr := st9.fr
   clear st9
   go_wp2
   exact bodyPost_ret (a0q rfl rfl hr Tryz.underlying72 (by rw [a0a]; kernel_rfl)) rfl ⟨rfl, hfr⟩
end Go.Proofs.YtemcankmggmgoaaGreatDoor
namespace Mvp
def rtN (M x : Nat) : Nat := x ^ (M / 4 + 1)
def c0E (M x : Nat) : Bool := rtN M x * rtN M x % M == x % M
def rtV (M x : Nat) : Nat := if rtN M x % M % 2 = 1 then M - rtN M x % M else rtN M x
end Mvp
namespace Go.Proofs.YtemcankmggmgoaaGreatDoor
open Go.RowKit Go.Mv Mvp
theorem x0N (m : Md) (h : m.Ok) (x y : Nat) (ty : TypeId) (hu : Tryz.prog.underlying ty = some (.array 4 23)) (w : World) :
  (Op.equal ty (i4 (elN m x)) (.agg (cw 4 (elN m y)).toArray)).run Tryz.prog w = .ok (x % m.M == y % m.M) w := by
 have hb : decide (elN m x % B64 ^ 4 = elN m y % B64 ^ 4) = (x % m.M == y % m.M) := by
  rw [Nat.mod_eq_of_lt (k0d m h x), Nat.mod_eq_of_lt (k0d m h y), Bool.eq_iff_iff]
  simp only [decide_eq_true_eq, beq_iff_eq]
  exact ⟨x0E m h, i0X m⟩
 rw [← hb]
 exact j0a hu Tryz.underlying23 c0x _ _ w
theorem n0f (x y : Nat) (ty : TypeId) (hg : Tryz.prog.eqGuardType Tryz.prog.depth ty = false) (a b : Operand) (w : World) :
  (eqGuard .neq ty a b (i4 x) (.agg (cw 4 y).toArray)).run Tryz.prog w = .ok () w := run_eqGuard_agg w .neq ty a b _ _ hg
theorem x0O (m : Md) (h : m.Ok) (x y : Nat) (ty : TypeId) (hu : Tryz.prog.underlying ty = some (.array 4 23)) (w : World) :
  (binOp .neq ty (i4 (elN m x)) (.agg (cw 4 (elN m y)).toArray)).run Tryz.prog w = .ok (.bool !(x % m.M == y % m.M)) w := by
 show (do pure (Value.bool (!(← Op.equal ty (i4 (elN m x)) (.agg (cw 4 (elN m y)).toArray))))).run Tryz.prog w = _
 simp only [Sem.run_bind, x0N m h x y ty hu, Result.andThen_ok]
 rfl
theorem j0b (m : Md) (h : m.Ok) (x y : Nat) (ty : TypeId) (hu : Tryz.prog.underlying ty = some (.array 4 23)) (hg : Tryz.prog.eqGuardType Tryz.prog.depth ty = false) {o : Oper} {a : Act} {w : World} {K : Act → World → Prop} {Q : Exit → Act → World → Prop} {p q : Operand} {T : TypeId}
  (ho : o.op = .binOp .neq ty p q T) (hp : a.eval p = i4 (elN m x)) (hq : a.eval q = .agg (cw 4 (elN m y)).toArray) {b : Bool} (hb : (x % m.M == y % m.M) = b) (hk : K (a.put o.dst (.bool !b)) w) : o.wp Tryz.prog a w K Q := by
 have h1 := n0f (elN m x) (elN m y) ty hg p q w
 have h2 := x0O m h x y ty hu w
 rw [hb] at h2
 unfold Oper.wp execOp
 simp only [ho, hp, hq, Sem.run_bind, h1, h2, Result.andThen_ok, Sem.run_pure]
 exact hk
theorem n0g (v : Nat) (w : World) : (Instr.index 72 (i4 v) (.int .i64 0)).run Tryz.prog w = .ok (.int .u64 (lw v 0 : Nat)) w :=
 e0b (P := Tryz.prog) Tryz.underlying72 Tryz.underlying23 c0x v 0 (by decide) .i64 w
theorem f0x (v : Nat) : bits .and .u64 (lw v 0 : Nat) 1 = ((v % 2 : Nat) : Int) := by
 have ha := bits_and_u64_nat (lw v 0) 1 (c0n _ _) (by omega)
 rw [Nat.and_one_is_mod, o0b] at ha
 rw [o0b]
 refine Eq.trans ha ?_
 congr 1
 omega
attribute [local irreducible] a0J lw mix cw b0t b0G b0q a0P a0u beN laid b0o b0H a0M a0V elN
theorem o0m (m : Md) (gp : Nat) (w : World) (hok : m.Ok) (hpm : Has w gp (mdL m) 115) (x n : Nat) (hn : m.M / 4 + 1 = n) (hr : ((x ^ n) * (x ^ n) % m.M == x % m.M) = false) :
  Calls Tryz.prog 120 #[.pointer (some ⟨gp, 0, none⟩), i4 (elN m x)] w fun e w' => e = .returned (.tuple #[i4 0, .bool false]) ∧ Fr Nob w w' := by
 have HOK := qH hok
 have HPM := qH hpm
 clear hok hpm
 have HE4 := qH (show n < B64 ^ 4 by subst hn; have := HOK.out.lt; have := HOK.out.one; omega)
 have h1p := fun wx => e0R (m.M / 4) 1 wx
 rw [← b0g 1 (by decide), hn] at h1p
 clear hn
 have H1P := qH h1p
 clear h1p
 have HR := qH hr
 clear hr
 have st0 := St.start Nob w
 go_enter Tryz.func120, Tryz.ntmps120
 go_wp2_with (with_reducible refine wSk 3 ?_)
 refine a0m st0 rfl rfl rfl (cw 4 (elN m x)) rfl ?_
 intro g3 w1 st1
 clear st0
 go_wp2_with (with_reducible refine wSk 4 ?_)
 refine a0b st1 rfl rfl (z := zAd) (by kernel_rfl) (cw 4 0) (by rw [a0f]; rfl) ?_
 intro g4 w2 st2
 clear st1
 go_wp2_with (with_reducible refine wSk 13 ?_)
 refine b0E rfl rfl Tryz.underlying72 rfl (HPM.out.keep st2.fr id) (cw 4 m.M) (m0W m) (by first | (rw [a0a]; kernel_rfl) | (simp only [List.length_append, a0a]; kernel_rfl)) ?_
 go_wp2_with fail
 refine (g0N m.M _ HOK.out.lt).mono ?_
 rintro e' w3 ⟨rfl, hf3⟩
 have st3 := st2.keep hf3
 clear st2 hf3
 go_wp2_with fail
 refine (H1P.out _).mono ?_
 rintro e' w4 ⟨rfl, hf4⟩
 have st4 := st3.keep hf4
 clear st3 hf4
 go_wp2_with (with_reducible refine wSk 6 ?_)
 refine a0b st4 rfl rfl (z := zAd) (by kernel_rfl) (cw 4 0) (by rw [a0f]; rfl) ?_
 intro g6 w5 st5
 clear st4
 go_wp2_with (with_reducible refine wSn ?_)
 refine a0d st5 2 rfl rfl rfl rfl rfl (by first | (simp only [a0a]; done) | (simp only [List.length_append, a0a]; done)) (by first | (rw [a0a]; kernel_rfl) | (simp only [List.length_append, a0a]; kernel_rfl)) (a0i _ _) ?_
 intro w6 st6
 clear st5
 go_wp2_with (with_reducible refine wSk 20 ?_)
 refine a0h st6 0 rfl rfl rfl Tryz.underlying59 rfl (by first | (rw [a0a]; kernel_rfl) | (simp only [List.length_append, a0a]; kernel_rfl)) ?_
 go_wp2_with (with_reducible refine wSk 21 ?_)
 refine a0h st6 2 rfl rfl rfl Tryz.underlying72 rfl (by first | (rw [a0a]; kernel_rfl) | (simp only [List.length_append, a0a]; kernel_rfl)) ?_
 go_wp2_with fail
 refine (g0h m gp _ HOK.out (HPM.out.keep st6.fr id) x n HE4.out).mono ?_
 rintro e' w7 ⟨rfl, hf7⟩
 have st7 := st6.keep hf7
 clear st6 hf7
 go_wp2_with (with_reducible refine wSk 8 ?_)
 refine a0b st7 rfl rfl (z := zAd) (by kernel_rfl) (cw 4 0) (by rw [a0f]; rfl) ?_
 intro g8 w8 st8
 clear st7
 go_wp2_with (with_reducible refine wSn ?_)
 refine a0d st8 3 rfl rfl rfl rfl rfl (by first | (simp only [a0a]; done) | (simp only [List.length_append, a0a]; done)) (by first | (rw [a0a]; kernel_rfl) | (simp only [List.length_append, a0a]; kernel_rfl)) (a0i _ _) ?_
 intro w9 st9
 clear st8
 go_wp2_with fail
 refine wp_region_noPanic ?_
 refine a0p (fun wx => St Nob w wx [(g3, cw 4 (elN m x), 59), (g4, cw 4 0, 59), (g6, cw 4 n, 72), (g8, cw 4 (elN m (x ^ n)), 59)]) 4 (.w 0 (.t 1 (.t 3 (.r 2 (.m 4 .nil))))) (by kernel_rfl) (by kernel_rfl) st9.drew (fun _ _ _ _ _ h => h) ?_
 have hd9 := st9.drew
 clear st9
 refine a0l (v := ?_) rfl rfl (fun wx => ?_) ?_
 rotate_left 1
 ·(go_simp; with_reducible rfl)
 try simp only [clL]
 refine a0s rfl rfl rfl rfl (cw 4 (elN m (x ^ n))) (fun wx hS => St.rangeL hS 3 rfl 0 _ dZl) Tryz.underlying59 rfl (by first | (rw [a0a]; kernel_rfl) | (simp only [List.length_append, a0a]; kernel_rfl)) ?_
 try simp only [clL]
 refine a0s rfl rfl rfl rfl (cw 4 (elN m x)) (fun wx hS => St.rangeL hS 0 rfl 0 _ dZl) Tryz.underlying59 rfl (by first | (rw [a0a]; kernel_rfl) | (simp only [List.length_append, a0a]; kernel_rfl)) ?_
 try simp only [clL]
 refine a0A rfl rfl ?_
 go_simp
 refine (c0W m gp _ HOK.out (HPM.out.keep hd9.fr id) (x ^ n)).mono ?_
 rintro e' w10 ⟨rfl, hf10⟩
 have st10 := hd9.keep hf10
 clear hf10
 clear hd9
 refine ⟨st10, ?_⟩
 try simp only [clL]
 refine a0r rfl rfl ?_
 refine j0b m HOK.out ((x ^ n) * (x ^ n)) x 59 Tryz.underlying59 Tryz.eqGuardType59 rfl rfl rfl HR.out ?_
 try simp only [clL]
 refine a0k ?_
 refine NoPanic.normal ?_
 go_wp2_with (with_reducible refine wSn ?_)
 refine a0d st10 1 rfl rfl rfl rfl (cs := cw 4 0) (by rw [a0f]; rfl) (by first | (simp only [a0a]; done) | (simp only [List.length_append, a0a]; done)) (by first | (rw [a0a]; kernel_rfl) | (simp only [List.length_append, a0a]; kernel_rfl)) (a0i _ _) ?_
 intro w11 st11
 clear st10
 have hr := st11.at 1 rfl
 have hfr := st11.fr
 clear st11
 go_wp2_with fail
 exact bodyPost_ret (a0Q rfl rfl hr Tryz.underlying59 (by first | (rw [a0a]; kernel_rfl) | (simp only [List.length_append, a0a]; kernel_rfl)) rfl) rfl ⟨rfl, hfr⟩
theorem o0n (m : Md) (gp : Nat) (w : World) (hok : m.Ok) (hpm : Has w gp (mdL m) 115) (x n : Nat) (hn : m.M / 4 + 1 = n) (hr : ((x ^ n) * (x ^ n) % m.M == x % m.M) = true) (hb : (x ^ n) % m.M % 2 = 0) :
  Calls Tryz.prog 120 #[.pointer (some ⟨gp, 0, none⟩), i4 (elN m x)] w fun e w' => e = .returned (.tuple #[i4 (elN m (x ^ n)), .bool true]) ∧ Fr Nob w w' := by
 have HOK := qH hok
 have HPM := qH hpm
 clear hok hpm
 have HB := qH hb
 have HE4 := qH (show n < B64 ^ 4 by subst hn; have := HOK.out.lt; have := HOK.out.one; omega)
 have h1p := fun wx => e0R (m.M / 4) 1 wx
 rw [← b0g 1 (by decide), hn] at h1p
 clear hn
 have H1P := qH h1p
 clear h1p
 have HR := qH hr
 clear hr
 clear hb
 have st0 := St.start Nob w
 go_enter Tryz.func120, Tryz.ntmps120
 go_wp2_with (with_reducible refine wSk 3 ?_)
 refine a0m st0 rfl rfl rfl (cw 4 (elN m x)) rfl ?_
 intro g3 w1 st1
 clear st0
 go_wp2_with (with_reducible refine wSk 4 ?_)
 refine a0b st1 rfl rfl (z := zAd) (by kernel_rfl) (cw 4 0) (by rw [a0f]; rfl) ?_
 intro g4 w2 st2
 clear st1
 go_wp2_with (with_reducible refine wSk 13 ?_)
 refine b0E rfl rfl Tryz.underlying72 rfl (HPM.out.keep st2.fr id) (cw 4 m.M) (m0W m) (by first | (rw [a0a]; kernel_rfl) | (simp only [List.length_append, a0a]; kernel_rfl)) ?_
 go_wp2_with fail
 refine (g0N m.M _ HOK.out.lt).mono ?_
 rintro e' w3 ⟨rfl, hf3⟩
 have st3 := st2.keep hf3
 clear st2 hf3
 go_wp2_with fail
 refine (H1P.out _).mono ?_
 rintro e' w4 ⟨rfl, hf4⟩
 have st4 := st3.keep hf4
 clear st3 hf4
 go_wp2_with (with_reducible refine wSk 6 ?_)
 refine a0b st4 rfl rfl (z := zAd) (by kernel_rfl) (cw 4 0) (by rw [a0f]; rfl) ?_
 intro g6 w5 st5
 clear st4
 go_wp2_with (with_reducible refine wSn ?_)
 refine a0d st5 2 rfl rfl rfl rfl rfl (by first | (simp only [a0a]; done) | (simp only [List.length_append, a0a]; done)) (by first | (rw [a0a]; kernel_rfl) | (simp only [List.length_append, a0a]; kernel_rfl)) (a0i _ _) ?_
 intro w6 st6
 clear st5
 go_wp2_with (with_reducible refine wSk 20 ?_)
 refine a0h st6 0 rfl rfl rfl Tryz.underlying59 rfl (by first | (rw [a0a]; kernel_rfl) | (simp only [List.length_append, a0a]; kernel_rfl)) ?_
 go_wp2_with (with_reducible refine wSk 21 ?_)
 refine a0h st6 2 rfl rfl rfl Tryz.underlying72 rfl (by first | (rw [a0a]; kernel_rfl) | (simp only [List.length_append, a0a]; kernel_rfl)) ?_
 go_wp2_with fail
 refine (g0h m gp _ HOK.out (HPM.out.keep st6.fr id) x n HE4.out).mono ?_
 rintro e' w7 ⟨rfl, hf7⟩
 have st7 := st6.keep hf7
 clear st6 hf7
 go_wp2_with (with_reducible refine wSk 8 ?_)
 refine a0b st7 rfl rfl (z := zAd) (by kernel_rfl) (cw 4 0) (by rw [a0f]; rfl) ?_
 intro g8 w8 st8
 clear st7
 go_wp2_with (with_reducible refine wSn ?_)
 refine a0d st8 3 rfl rfl rfl rfl rfl (by first | (simp only [a0a]; done) | (simp only [List.length_append, a0a]; done)) (by first | (rw [a0a]; kernel_rfl) | (simp only [List.length_append, a0a]; kernel_rfl)) (a0i _ _) ?_
 intro w9 st9
 clear st8
 go_wp2_with fail
 refine wp_region_noPanic ?_
 refine a0p (fun wx => St Nob w wx [(g3, cw 4 (elN m x), 59), (g4, cw 4 0, 59), (g6, cw 4 n, 72), (g8, cw 4 (elN m (x ^ n)), 59)]) 4 (.w 0 (.t 1 (.t 3 (.r 2 (.m 4 .nil))))) (by kernel_rfl) (by kernel_rfl) st9.drew (fun _ _ _ _ _ h => h) ?_
 have hd9 := st9.drew
 clear st9
 refine a0l (v := ?_) rfl rfl (fun wx => ?_) ?_
 rotate_left 1
 ·(go_simp; with_reducible rfl)
 try simp only [clL]
 refine a0s rfl rfl rfl rfl (cw 4 (elN m (x ^ n))) (fun wx hS => St.rangeL hS 3 rfl 0 _ dZl) Tryz.underlying59 rfl (by first | (rw [a0a]; kernel_rfl) | (simp only [List.length_append, a0a]; kernel_rfl)) ?_
 try simp only [clL]
 refine a0s rfl rfl rfl rfl (cw 4 (elN m x)) (fun wx hS => St.rangeL hS 0 rfl 0 _ dZl) Tryz.underlying59 rfl (by first | (rw [a0a]; kernel_rfl) | (simp only [List.length_append, a0a]; kernel_rfl)) ?_
 try simp only [clL]
 refine a0A rfl rfl ?_
 go_simp
 refine (c0W m gp _ HOK.out (HPM.out.keep hd9.fr id) (x ^ n)).mono ?_
 rintro e' w10 ⟨rfl, hf10⟩
 have st10 := hd9.keep hf10
 clear hf10
 clear hd9
 refine ⟨st10, ?_⟩
 try simp only [clL]
 refine a0r rfl rfl ?_
 refine j0b m HOK.out ((x ^ n) * (x ^ n)) x 59 Tryz.underlying59 Tryz.eqGuardType59 rfl rfl rfl HR.out ?_
 try simp only [clL]
 refine a0k ?_
 refine NoPanic.normal ?_
 have hix := fun wx => n0g ((x ^ n) % m.M) wx
 have hla := f0x ((x ^ n) % m.M)
 rw [HB.out] at hla
 go_wp2_with (with_reducible refine wSk 30 ?_)
 refine a0h st10 3 rfl rfl rfl Tryz.underlying59 rfl (by first | (rw [a0a]; kernel_rfl) | (simp only [List.length_append, a0a]; kernel_rfl)) ?_
 go_wp2_with fail
 refine (e0e m gp _ HOK.out (HPM.out.keep st10.fr id) (x ^ n)).mono ?_
 rintro e' w11 ⟨rfl, hf11⟩
 have st11 := st10.keep hf11
 clear st10 hf11
 go_wp2_with (with_reducible refine wSk 38 ?_)
 refine a0h st11 3 rfl rfl rfl Tryz.underlying59 rfl (by first | (rw [a0a]; kernel_rfl) | (simp only [List.length_append, a0a]; kernel_rfl)) ?_
 go_wp2_with (with_reducible refine wSn ?_)
 refine a0d st11 1 rfl rfl rfl rfl rfl (by first | (simp only [a0a]; done) | (simp only [List.length_append, a0a]; done)) (by first | (rw [a0a]; kernel_rfl) | (simp only [List.length_append, a0a]; kernel_rfl)) (a0i _ _) ?_
 intro w12 st12
 clear st11
 have hr := st12.at 1 rfl
 have hfr := st12.fr
 clear st12
 go_wp2_with fail
 exact bodyPost_ret (a0Q rfl rfl hr Tryz.underlying59 (by first | (rw [a0a]; kernel_rfl) | (simp only [List.length_append, a0a]; kernel_rfl)) rfl) rfl ⟨rfl, hfr⟩
theorem q0h (m : Md) (gp : Nat) (w : World) (hok : m.Ok) (hpm : Has w gp (mdL m) 115) (x n : Nat) (hn : m.M / 4 + 1 = n) (hr : ((x ^ n) * (x ^ n) % m.M == x % m.M) = true) (hb : (x ^ n) % m.M % 2 = 1) :
  Calls Tryz.prog 120 #[.pointer (some ⟨gp, 0, none⟩), i4 (elN m x)] w fun e w' => e = .returned (.tuple #[i4 (elN m (m.M - (x ^ n) % m.M)), .bool true]) ∧ Fr Nob w w' := by
 have HOK := qH hok
 have HPM := qH hpm
 clear hok hpm
 have HB := qH hb
 have HE4 := qH (show n < B64 ^ 4 by subst hn; have := HOK.out.lt; have := HOK.out.one; omega)
 have h1p := fun wx => e0R (m.M / 4) 1 wx
 rw [← b0g 1 (by decide), hn] at h1p
 clear hn
 have H1P := qH h1p
 clear h1p
 have HR := qH hr
 clear hr
 clear hb
 have st0 := St.start Nob w
 go_enter Tryz.func120, Tryz.ntmps120
 go_wp2_with (with_reducible refine wSk 3 ?_)
 refine a0m st0 rfl rfl rfl (cw 4 (elN m x)) rfl ?_
 intro g3 w1 st1
 clear st0
 go_wp2_with (with_reducible refine wSk 4 ?_)
 refine a0b st1 rfl rfl (z := zAd) (by kernel_rfl) (cw 4 0) (by rw [a0f]; rfl) ?_
 intro g4 w2 st2
 clear st1
 go_wp2_with (with_reducible refine wSk 13 ?_)
 refine b0E rfl rfl Tryz.underlying72 rfl (HPM.out.keep st2.fr id) (cw 4 m.M) (m0W m) (by first | (rw [a0a]; kernel_rfl) | (simp only [List.length_append, a0a]; kernel_rfl)) ?_
 go_wp2_with fail
 refine (g0N m.M _ HOK.out.lt).mono ?_
 rintro e' w3 ⟨rfl, hf3⟩
 have st3 := st2.keep hf3
 clear st2 hf3
 go_wp2_with fail
 refine (H1P.out _).mono ?_
 rintro e' w4 ⟨rfl, hf4⟩
 have st4 := st3.keep hf4
 clear st3 hf4
 go_wp2_with (with_reducible refine wSk 6 ?_)
 refine a0b st4 rfl rfl (z := zAd) (by kernel_rfl) (cw 4 0) (by rw [a0f]; rfl) ?_
 intro g6 w5 st5
 clear st4
 go_wp2_with (with_reducible refine wSn ?_)
 refine a0d st5 2 rfl rfl rfl rfl rfl (by first | (simp only [a0a]; done) | (simp only [List.length_append, a0a]; done)) (by first | (rw [a0a]; kernel_rfl) | (simp only [List.length_append, a0a]; kernel_rfl)) (a0i _ _) ?_
 intro w6 st6
 clear st5
 go_wp2_with (with_reducible refine wSk 20 ?_)
 refine a0h st6 0 rfl rfl rfl Tryz.underlying59 rfl (by first | (rw [a0a]; kernel_rfl) | (simp only [List.length_append, a0a]; kernel_rfl)) ?_
 go_wp2_with (with_reducible refine wSk 21 ?_)
 refine a0h st6 2 rfl rfl rfl Tryz.underlying72 rfl (by first | (rw [a0a]; kernel_rfl) | (simp only [List.length_append, a0a]; kernel_rfl)) ?_
 go_wp2_with fail
 refine (g0h m gp _ HOK.out (HPM.out.keep st6.fr id) x n HE4.out).mono ?_
 rintro e' w7 ⟨rfl, hf7⟩
 have st7 := st6.keep hf7
 clear st6 hf7
 go_wp2_with (with_reducible refine wSk 8 ?_)
 refine a0b st7 rfl rfl (z := zAd) (by kernel_rfl) (cw 4 0) (by rw [a0f]; rfl) ?_
 intro g8 w8 st8
 clear st7
 go_wp2_with (with_reducible refine wSn ?_)
 refine a0d st8 3 rfl rfl rfl rfl rfl (by first | (simp only [a0a]; done) | (simp only [List.length_append, a0a]; done)) (by first | (rw [a0a]; kernel_rfl) | (simp only [List.length_append, a0a]; kernel_rfl)) (a0i _ _) ?_
 intro w9 st9
 clear st8
 go_wp2_with fail
 refine wp_region_noPanic ?_
 refine a0p (fun wx => St Nob w wx [(g3, cw 4 (elN m x), 59), (g4, cw 4 0, 59), (g6, cw 4 n, 72), (g8, cw 4 (elN m (x ^ n)), 59)]) 4 (.w 0 (.t 1 (.t 3 (.r 2 (.m 4 .nil))))) (by kernel_rfl) (by kernel_rfl) st9.drew (fun _ _ _ _ _ h => h) ?_
 have hd9 := st9.drew
 clear st9
 refine a0l (v := ?_) rfl rfl (fun wx => ?_) ?_
 rotate_left 1
 ·(go_simp; with_reducible rfl)
 try simp only [clL]
 refine a0s rfl rfl rfl rfl (cw 4 (elN m (x ^ n))) (fun wx hS => St.rangeL hS 3 rfl 0 _ dZl) Tryz.underlying59 rfl (by first | (rw [a0a]; kernel_rfl) | (simp only [List.length_append, a0a]; kernel_rfl)) ?_
 try simp only [clL]
 refine a0s rfl rfl rfl rfl (cw 4 (elN m x)) (fun wx hS => St.rangeL hS 0 rfl 0 _ dZl) Tryz.underlying59 rfl (by first | (rw [a0a]; kernel_rfl) | (simp only [List.length_append, a0a]; kernel_rfl)) ?_
 try simp only [clL]
 refine a0A rfl rfl ?_
 go_simp
 refine (c0W m gp _ HOK.out (HPM.out.keep hd9.fr id) (x ^ n)).mono ?_
 rintro e' w10 ⟨rfl, hf10⟩
 have st10 := hd9.keep hf10
 clear hf10
 clear hd9
 refine ⟨st10, ?_⟩
 try simp only [clL]
 refine a0r rfl rfl ?_
 refine j0b m HOK.out ((x ^ n) * (x ^ n)) x 59 Tryz.underlying59 Tryz.eqGuardType59 rfl rfl rfl HR.out ?_
 try simp only [clL]
 refine a0k ?_
 refine NoPanic.normal ?_
 have hix := fun wx => n0g ((x ^ n) % m.M) wx
 have hla := f0x ((x ^ n) % m.M)
 rw [HB.out] at hla
 go_wp2_with (with_reducible refine wSk 30 ?_)
 refine a0h st10 3 rfl rfl rfl Tryz.underlying59 rfl (by first | (rw [a0a]; kernel_rfl) | (simp only [List.length_append, a0a]; kernel_rfl)) ?_
 go_wp2_with fail
 refine (e0e m gp _ HOK.out (HPM.out.keep st10.fr id) (x ^ n)).mono ?_
 rintro e' w11 ⟨rfl, hf11⟩
 have st11 := st10.keep hf11
 clear st10 hf11
 go_wp2_with (with_reducible refine wSk 36 ?_)
 refine a0h st11 3 rfl rfl rfl Tryz.underlying59 rfl (by first | (rw [a0a]; kernel_rfl) | (simp only [List.length_append, a0a]; kernel_rfl)) ?_
 go_wp2_with fail
 refine (n0b m gp _ HOK.out (HPM.out.keep st11.fr id) (x ^ n)).mono ?_
 rintro e' w12 ⟨rfl, hf12⟩
 have st12 := st11.keep hf12
 clear st11 hf12
 go_wp2_with (with_reducible refine wSn ?_)
 refine a0d st12 3 rfl rfl rfl rfl rfl (by first | (simp only [a0a]; done) | (simp only [List.length_append, a0a]; done)) (by first | (rw [a0a]; kernel_rfl) | (simp only [List.length_append, a0a]; kernel_rfl)) (a0i _ _) ?_
 intro w13 st13
 clear st12
 go_wp2_with (with_reducible refine wSk 38 ?_)
 refine a0h st13 3 rfl rfl rfl Tryz.underlying59 rfl (by first | (rw [a0a]; kernel_rfl) | (simp only [List.length_append, a0a]; kernel_rfl)) ?_
 go_wp2_with (with_reducible refine wSn ?_)
 refine a0d st13 1 rfl rfl rfl rfl rfl (by first | (simp only [a0a]; done) | (simp only [List.length_append, a0a]; done)) (by first | (rw [a0a]; kernel_rfl) | (simp only [List.length_append, a0a]; kernel_rfl)) (a0i _ _) ?_
 intro w14 st14
 clear st13
 have hr := st14.at 1 rfl
 have hfr := st14.fr
 clear st14
 go_wp2_with fail
 exact bodyPost_ret (a0Q rfl rfl hr Tryz.underlying59 (by first | (rw [a0a]; kernel_rfl) | (simp only [List.length_append, a0a]; kernel_rfl)) rfl) rfl ⟨rfl, hfr⟩
end Go.Proofs.YtemcankmggmgoaaGreatDoor
namespace Go.Mv
open Go.RowKit Mvp
variable {P : Program}
end Go.Mv
namespace Go.Proofs.YtemcankmggmgoaaGreatDoor
section
open Go.RowKit Go.Mv Mvp
theorem e0f {P : Program} {ty : TypeId} {xs ys : Array Value} {b : Bool} (w : World) (h : (Op.equal ty (.agg xs) (.agg ys)).run P w = .ok b w) : (binOp .eql ty (.agg xs) (.agg ys)).run P w = .ok (.bool b) w := by
 show (do pure (Value.bool (← Op.equal ty (.agg xs) (.agg ys)))).run P w = _
 simp only [Sem.run_bind, h, Result.andThen_ok]
 rfl
theorem d0w {P : Program} {op : BinOp} {ty : TypeId} {o : Oper} {a : Act} {p q : Operand} {T : TypeId} {x y v : Value} (ho : o.op = .binOp op ty p q T) (hp : a.eval p = x) (hq : a.eval q = y) (w : World)
  (h1 : (eqGuard op ty p q x y).run P w = .ok () w) (h2 : (binOp op ty x y).run P w = .ok v w) : (execOp a.eval o).run P w = .ok (.value v) w := by
 subst hp hq
 unfold execOp
 simp only [ho, Sem.run_bind, h1, h2, Result.andThen_ok, Sem.run_pure]
theorem q0i (m : Md) (h : m.Ok) (x y : Nat) {o : Oper} {a : Act} {p q : Operand} {T ty : TypeId} (hu : Tryz.prog.underlying ty = some (.array 4 23)) (hg : Tryz.prog.eqGuardType Tryz.prog.depth ty = false) (ho : o.op = .binOp .eql ty p q T) (hp : a.eval p = i4 (elN m x)) (hq : a.eval q = i4 (elN m y)) {b : Bool} (hb : (x % m.M == y % m.M) = b) (w : World) :
  (execOp a.eval o).run Tryz.prog w = .ok (.value (.bool b)) w := by
 subst hb
 exact d0w ho hp hq w (run_eqGuard_agg w .eql ty p q _ _ hg) (e0f w (x0N m h x y ty hu w))
theorem e0E {o : Oper} {a : Act} {w : World} {P : Program} {ops : Array Oper} {rest : List Oper} {Q : Exit → Act → World → Prop} {v : Value} (hgd : o.guard = none) (hx : (execOp a.eval o).run P w = .ok (.value v) w) (h : wpList P ops Q rest (a.put o.dst v) w) : wpList P ops Q (o :: rest) a w := by
 refine wpList_plain hgd fun K hK => ?_
 unfold Oper.wp
 rw [hx]
 exact hK _ _ h
attribute [local irreducible] a0J lw mix cw b0t b0G b0q a0P a0u beN laid b0o b0H a0M a0V elN mdL b0R
theorem s0P : (Value.agg #[.int .u64 0, .int .u64 0, .int .u64 0, .int .u64 0]) = i4 0 := by rw [i4, a0f]; rfl
theorem s0Q : Tryz.prog.built 59 [] = some #[.int .u64 0, .int .u64 0, .int .u64 0, .int .u64 0] := by kernel_rfl
theorem c0X (m : Md) (hok : m.Ok) (x : Nat) (b : Bool) (hb : (x % m.M == 0) = b) (w : World) :
  Calls Tryz.prog 56 #[i4 (elN m x)] w fun e w' => e = .returned (.bool b) ∧ Fr Nob w w' := by
 have HOK := qH hok
 have HB := qH (show (x % m.M == 0 % m.M) = b by rw [Nat.zero_mod]; exact hb)
 have HZ := qH (show i4 0 = i4 (elN m 0) by rw [d0m])
 clear hok hb
 have st0 := St.start Nob w
 go_enter Tryz.func56, Tryz.ntmps56
 go_wp2_with (with_reducible refine wSk 1 ?_)
 refine a0m st0 rfl rfl rfl (cw 4 (elN m x)) rfl ?_
 intro g1 w1 st1
 clear st0
 go_wp2_with (with_reducible refine wSk 3 ?_)
 refine a0h st1 0 rfl rfl rfl Tryz.underlying59 rfl (by first | (rw [a0a]; kernel_rfl) | (simp only [List.length_append, a0a]; kernel_rfl)) ?_
 go_wp2_with (with_reducible refine wSk 4 ?_)
 refine c0c rfl rfl _ s0Q ?_
 rw [s0P, HZ.out]
 go_wp2_with (with_reducible refine wSk 5 ?_)
 refine e0E rfl (q0i m HOK.out x 0 Tryz.underlying59 Tryz.eqGuardType59 rfl rfl rfl HB.out _) ?_
 have hfr := st1.fr
 clear st1
 go_wp2_with fail
 go_ret
 exact ⟨rfl, hfr⟩
theorem k0j (m : Md) (hok : m.Ok) (x : Nat) (b : Bool) (hb : (x % m.M == 0) = b) (w : World) :
  Calls Tryz.prog 25 #[i4 (elN m x)] w fun e w' => e = .returned (.bool b) ∧ Fr Nob w w' := by
 have HOK := qH hok
 have HB := qH hb
 clear hok hb
 have st0 := St.start Nob w
 go_enter Tryz.func25, Tryz.ntmps25
 go_wp2_with (with_reducible refine wSk 1 ?_)
 refine a0m st0 rfl rfl rfl (cw 4 (elN m x)) rfl ?_
 intro g1 w1 st1
 clear st0
 go_wp2_with (with_reducible refine wSk 4 ?_)
 refine a0h st1 0 rfl rfl rfl Tryz.underlying59 rfl (by first | (rw [a0a]; kernel_rfl) | (simp only [List.length_append, a0a]; kernel_rfl)) ?_
 go_wp2_with fail
 refine (c0X m HOK.out x b HB.out _).mono ?_
 rintro e' w2 ⟨rfl, hf2⟩
 have st2 := st1.keep hf2
 clear st1 hf2
 have hfr := st2.fr
 clear st2
 go_wp2_with fail
 go_ret
 exact ⟨rfl, hfr⟩
theorem o0o (v : Int) : Tryz.prog.built 72 [(0, .int .u64 v)] = some #[.int .u64 v, .int .u64 0, .int .u64 0, .int .u64 0] := by kernel_rfl
theorem i0g (m : Md) (gp : Nat) (w : World) (hok : m.Ok) (hpm : Has w gp (mdL m) 115) (k : Nat) (hk : k < 18446744073709551616) :
  Calls Tryz.prog 57 #[.pointer (some ⟨gp, 0, none⟩), .int .u64 (k : Int)] w fun e w' => e = .returned (i4 (elN m k)) ∧ Fr Nob w w' := by
 have HOK := qH hok
 have HPM := qH hpm
 have HW := qH (b0g k hk)
 have HK4 := qH (show k < B64 ^ 4 from Nat.lt_of_lt_of_le hk (by decide))
 clear hok hpm hk
 have st0 := St.start Nob w
 go_enter Tryz.func57, Tryz.ntmps57
 go_wp2_with (with_reducible refine wSk 4 ?_)
 refine a0b st0 rfl rfl (z := zAd) (by kernel_rfl) (cw 4 0) (by rw [a0f]; rfl) ?_
 intro g4 w1 st1
 clear st0
 go_wp2_with (with_reducible refine wSk 7 ?_)
 refine c0f rfl rfl _ (o0o (k : Int)) ?_
 rw [HW.out]
 go_wp2_with fail
 refine (d0N m gp _ HOK.out (HPM.out.keep st1.fr id) k HK4.out).mono ?_
 rintro e' w2 ⟨rfl, hf2⟩
 have st2 := st1.keep hf2
 clear st1 hf2
 go_wp2_with (with_reducible refine wSn ?_)
 refine a0d st2 0 rfl rfl rfl rfl rfl (by first | (simp only [a0a]; done) | (simp only [List.length_append, a0a]; done)) (by first | (rw [a0a]; kernel_rfl) | (simp only [List.length_append, a0a]; kernel_rfl)) (a0i _ _) ?_
 intro w3 st3
 clear st2
 have hr := st3.at 0 rfl
 have hfr := st3.fr
 clear st3
 go_wp2_with fail
 exact bodyPost_ret (a0q rfl rfl hr Tryz.underlying59 (by first | (rw [a0a]; kernel_rfl) | (simp only [List.length_append, a0a]; kernel_rfl))) rfl ⟨rfl, hfr⟩
theorem o0p (m : Md) (hk : KindOf 1 m) (k : Nat) (hk4 : k < 18446744073709551616) (w : World) :
  Calls Tryz.prog 26 #[.int .u64 (k : Int)] w fun e w' => e = .returned (i4 (elN m k)) ∧ Fr Nob w w' := by
 have HK := qH hk
 have HOK := qH hk.ok
 clear hk
 have HK4 := qH hk4
 clear hk4
 have st0 := St.start Nob w
 go_enter Tryz.func26, Tryz.ntmps26
 go_wp2_with (with_reducible refine wSk 2 ?_)
 refine a0b st0 rfl rfl (z := zAd) (by kernel_rfl) (cw 4 0) (by rw [a0f]; rfl) ?_
 intro g2 w1 st1
 clear st0
 go_wp2_with fail
 refine (g0M m HK.out _).mono ?_
 rintro e' w2 ⟨gp, rfl, hle, hm, hf2⟩
 have st2 : St Nob w w2 [(g2, cw 4 0, 61), (gp, mdL m, 115)] := st1.new hf2 hm hle
 clear st1 hf2 hm hle
 go_wp2_with fail
 refine (i0g m gp _ HOK.out (st2.at 1 rfl) k HK4.out).mono ?_
 rintro e' w3 ⟨rfl, hf3⟩
 have st3 := st2.keep hf3
 clear st2 hf3
 go_wp2_with (with_reducible refine wSk 6 ?_)
 refine c0f rfl rfl _ (q0e _) ?_
 go_wp2_with (with_reducible refine wSn ?_)
 refine a0d st3 0 rfl rfl rfl rfl rfl (by first | (simp only [a0a]; done) | (simp only [List.length_append, a0a]; done)) (by first | (rw [a0a]; kernel_rfl) | (simp only [List.length_append, a0a]; kernel_rfl)) (a0i _ _) ?_
 intro w4 st4
 clear st3
 have hr := st4.at 0 rfl
 have hfr := st4.fr
 clear st4
 go_wp2_with fail
 exact bodyPost_ret (a0F rfl rfl hr Tryz.underlying61 rfl (by first | (rw [a0a]; kernel_rfl) | (simp only [List.length_append, a0a]; kernel_rfl))) rfl ⟨rfl, hfr⟩
theorem i0h (m : Md) (hk : KindOf 1 m) (x : Nat) (w : World) :
  Calls Tryz.prog 27 #[i4 (elN m x)] w fun e w' => ∃ v, e = .returned v ∧ Own w' w.heap.size 5 1 v 32 (bs (b0o (x % m.M))) ∧ Fr Nob w w' := by
 have HK := qH hk
 have HOK := qH hk.ok
 clear hk
 have st0 := St.start Nob w
 go_enter Tryz.func27, Tryz.ntmps27
 go_wp2_with (with_reducible refine wSk 1 ?_)
 refine a0m st0 rfl rfl rfl (cw 4 (elN m x)) rfl ?_
 intro g1 w1 st1
 clear st0
 go_wp2_with fail
 refine wp_region_noPanic ?_
 refine a0p (fun wx => St Nob w wx [(g1, cw 4 (elN m x), 61)]) 5 (.w 1 (.t 2 (.r 0 (.r 3 (.r 4 (.m 5 .nil)))))) (by kernel_rfl) (by kernel_rfl) st1.drew (fun _ _ _ _ _ h => h) ?_
 have hd1 := st1.drew
 clear st1
 refine a0l (v := ?_) rfl rfl (fun wx => ?_) ?_
 rotate_left 1
 ·(go_simp; with_reducible rfl)
 try simp only [clL]
 refine a0s rfl rfl rfl rfl (cw 4 (elN m x)) (fun wx hS => St.rangeL hS 0 rfl 0 _ dZl) Tryz.underlying59 rfl (by first | (rw [a0a]; kernel_rfl) | (simp only [List.length_append, a0a]; kernel_rfl)) ?_
 try simp only [clL]
 refine a0A rfl rfl ?_
 go_simp
 refine (g0M m HK.out _).mono ?_
 rintro e' w2 ⟨gp, rfl, hle, hm, hf2⟩
 have st2 : St Nob w w2 [(g1, cw 4 (elN m x), 61), (gp, mdL m, 115)] := hd1.new hf2 hm hle
 clear hf2 hm hle
 clear hd1
 refine ⟨St.less st2 (by simp), ?_⟩
 try simp only [clL]
 refine a0A rfl rfl ?_
 go_simp
 refine (e0e m gp _ HOK.out (st2.at 1 rfl) x).mono ?_
 rintro e' w3 ⟨rfl, hf3⟩
 have st3 := st2.keep hf3
 clear hf3
 clear st2
 refine ⟨St.less st3 (by simp), ?_⟩
 try simp only [clL]
 refine a0A rfl rfl ?_
 go_simp
 refine (i0b (x % m.M) _).mono ?_
 rintro e' w4 ⟨v, rfl, hown, hf4⟩
 have st4 := st3.keep hf4
 have HSZ := st3.fr.size
 obtain ⟨av, cv, hve, hcv, hrv, -⟩ := hown.form
 subst hve
 have HOWN := qH (hown.mono (HSZ))
 clear hown hrv
 clear hf4
 clear st3
 refine ⟨St.less st4 (by simp), ?_⟩
 try simp only [clL]
 refine a0r rfl rfl ?_
 go_simp
 try simp only [clL]
 refine a0k ?_
 refine NoPanic.normal ?_
 have hfr := st4.fr
 clear st4
 go_wp2_with fail
 go_ret
 exact ⟨_, rfl, HOWN.out, hfr⟩
end
section
open Go.RowKit Go.Mv Mvp
end
end Go.Proofs.YtemcankmggmgoaaGreatDoor
namespace Mvp
def d0x (i : Nat) : Nat := i / 5 + 5 * ((2 * (i % 5) + 3 * (i / 5)) % 5)
def j0c (s c : List UInt64) (i : Nat) : List UInt64 := c.set (i % 5) (c.getD (i % 5) 0 ^^^ s.getD i 0)
def n0h (s : List UInt64) (k : Nat) : List UInt64 := (List.range k).foldl (j0c s) [0, 0, 0, 0, 0]
def j0d (s col : List UInt64) (by_ : List Nat) (m : List UInt64) (i : Nat) : List UInt64 :=
 m.set (d0x i) (l0E (s.getD i 0 ^^^ (col.getD ((i + 4) % 5) 0 ^^^ l0E (col.getD ((i + 1) % 5) 0) 1)) (by_.getD i 0))
def o0q (s col : List UInt64) (by_ : List Nat) (k : Nat) : List UInt64 := (List.range k).foldl (j0d s col by_) (List.replicate 25 0)
def g0O (m : List UInt64) (y : Nat) (s : List UInt64) (x : Nat) : List UInt64 :=
 s.set (y + x) (m.getD (y + x) 0 ^^^ (~~~ (m.getD (y + (x + 1) % 5) 0) &&& m.getD (y + (x + 2) % 5) 0))
def d0y (m s : List UInt64) (y k : Nat) : List UInt64 := (List.range k).foldl (g0O m y) s
def k0k (m s : List UInt64) (k : Nat) : List UInt64 := (List.range k).foldl (fun s y => d0y m s (5 * y) 5) s
def g0P (by_ : List Nat) (s : List UInt64) (c : UInt64) : List UInt64 :=
 let t := k0k (o0q s (n0h s 25) by_ 25) s 5
 t.set 0 (t.getD 0 0 ^^^ c)
def b0B (by_ : List Nat) (rc : Nat → UInt64) (s : List UInt64) (k : Nat) : List UInt64 := (List.range k).foldl (fun s r => g0P by_ s (rc r)) s
def a0W (x y : Nat) : Nat := x % 5 + 5 * (y % 5)
def g0i (s : List UInt64) (x : Nat) (c : List UInt64) (y : Nat) : List UInt64 := c.set x (c.getD x 0 ^^^ s.getD (a0W x y) 0)
def b0X (s c : List UInt64) (x k : Nat) : List UInt64 := (List.range k).foldl (g0i s x) c
def h0M (s : List UInt64) (k : Nat) : List UInt64 := (List.range k).foldl (fun c x => b0X s c x 5) [0, 0, 0, 0, 0]
def g0j (s : List UInt64) (turn : List Nat) (x : Nat) (d : UInt64) (m : List UInt64) (y : Nat) : List UInt64 :=
 m.set (a0W y (2 * x + 3 * y)) (l0E (s.getD (a0W x y) 0 ^^^ d) (turn.getD (a0W x y) 0))
def c0G (s : List UInt64) (turn : List Nat) (m : List UInt64) (x : Nat) (d : UInt64) (k : Nat) : List UInt64 := (List.range k).foldl (g0j s turn x d) m
def dR (col : List UInt64) (x : Nat) : UInt64 := col.getD ((x + 4) % 5) 0 ^^^ l0E (col.getD ((x + 1) % 5) 0) 1
def k0l (s : List UInt64) (turn : List Nat) (col : List UInt64) (k : Nat) : List UInt64 := (List.range k).foldl (fun m x => c0G s turn m x (dR col x) 5) (List.replicate 25 0)
def g0k (m : List UInt64) (x : Nat) (o : List UInt64) (y : Nat) : List UInt64 :=
 o.set (a0W x y) (m.getD (a0W x y) 0 ^^^ (~~~ (m.getD (a0W (x + 1) y) 0) &&& m.getD (a0W (x + 2) y) 0))
def c0H (m o : List UInt64) (x k : Nat) : List UInt64 := (List.range k).foldl (g0k m x) o
def k0m (m : List UInt64) (k : Nat) : List UInt64 := (List.range k).foldl (fun o x => c0H m o x 5) (List.replicate 25 0)
def e0W (turn : List Nat) (s : List UInt64) (c : UInt64) : List UInt64 :=
 let t := k0m (k0l s turn (h0M s 5) 5) 5
 t.set 0 (t.getD 0 0 ^^^ c)
def e0t (turn : List Nat) (rc : Nat → UInt64) (s : List UInt64) (k : Nat) : List UInt64 := (List.range k).foldl (fun s r => e0W turn s (rc r)) s
theorem x0P (s : List UInt64) (h : s.length = 25) : ∃ a0 a1 a2 a3 a4 a5 a6 a7 a8 a9 a10 a11 a12 a13 a14 a15 a16 a17 a18 a19 a20 a21 a22 a23 a24, s = [a0, a1, a2, a3, a4, a5, a6, a7, a8, a9, a10, a11, a12, a13, a14, a15, a16, a17, a18, a19, a20, a21, a22, a23, a24] := by
 match s, h with
 | [a0, a1, a2, a3, a4, a5, a6, a7, a8, a9, a10, a11, a12, a13, a14, a15, a16, a17, a18, a19, a20, a21, a22, a23, a24], _ => exact ⟨_, _, _, _, _, _, _, _, _, _, _, _, _, _, _, _, _, _, _, _, _, _, _, _, _, rfl⟩
theorem s0R (s : List UInt64) (h : s.length = 25) : n0h s 25 = h0M s 5 := by
 obtain ⟨a0, a1, a2, a3, a4, a5, a6, a7, a8, a9, a10, a11, a12, a13, a14, a15, a16, a17, a18, a19, a20, a21, a22, a23, a24, rfl⟩ := x0P s h
 kernel_rfl
theorem s0S (s col : List UInt64) (t : List Nat) : o0q s col t 25 = k0l s t col 5 := by
 kernel_rfl
theorem s0T (m s : List UInt64) (h : s.length = 25) : k0k m s 5 = k0m m 5 := by
 obtain ⟨a0, a1, a2, a3, a4, a5, a6, a7, a8, a9, a10, a11, a12, a13, a14, a15, a16, a17, a18, a19, a20, a21, a22, a23, a24, rfl⟩ := x0P s h
 kernel_rfl
theorem o0r (t : List Nat) (s : List UInt64) (c : UInt64) (h : s.length = 25) : g0P t s c = e0W t s c := by
 unfold g0P e0W
 rw [s0R s h, s0S, s0T _ s h]
theorem k0n {α β : Type} (P : α → Prop) (f : α → β → α) (hf : ∀ a b, P a → P (f a b)) (l : List β) : ∀ a, P a → P (l.foldl f a) := by
 induction l with
 | nil => intro a h; exact h
 | cons b l ih => intro a h; exact ih _ (hf _ _ h)
theorem j0e (m s : List UInt64) (k : Nat) : (k0k m s k).length = s.length := by
 refine k0n (fun l : List UInt64 => l.length = s.length) _ (fun a y h => ?_) _ _ rfl
 refine k0n (fun l : List UInt64 => l.length = s.length) _ (fun b x h => ?_) _ _ h
 simp [g0O, h]
theorem o0s (t : List Nat) (s : List UInt64) (c : UInt64) : (g0P t s c).length = s.length := by simp [g0P, j0e]
theorem f0y (t : List Nat) (rc : Nat → UInt64) (s : List UInt64) (k : Nat) : b0B t rc s (k + 1) = g0P t (b0B t rc s k) (rc k) := by
 simp [b0B, List.range_succ]
theorem f0z (t : List Nat) (rc : Nat → UInt64) (s : List UInt64) (k : Nat) : e0t t rc s (k + 1) = e0W t (e0t t rc s k) (rc k) := by
 simp [e0t, List.range_succ]
theorem g0Q (t : List Nat) (rc : Nat → UInt64) (s : List UInt64) (k : Nat) : (b0B t rc s k).length = s.length := by
 induction k with
 | zero => simp [b0B]
 | succ k ih => rw [f0y, o0s, ih]
theorem q0j (t : List Nat) (rc rc' : Nat → UInt64) (s : List UInt64) (h : s.length = 25) (n : Nat) (hrc : ∀ r, r < n → rc r = rc' r) : b0B t rc s n = e0t t rc' s n := by
 induction n with
 | zero => simp [b0B, e0t]
 | succ k ih =>
  rw [f0y, f0z, ← ih (fun r hr => hrc r (by omega)), hrc k (by omega)]
  exact o0r _ _ _ (by rw [g0Q, h])
def l0R : Nat → Nat
 | 0 => 1
 | n + 1 => if 2 * l0R n > 255 then (2 * l0R n) ^^^ 369 else 2 * l0R n
theorem v0P (n : Nat) : l0R n < 256 := by
 have h : ∀ r, r < 256 → (if 2 * r > 255 then (2 * r) ^^^ 369 else 2 * r) < 256 := by decide +kernel
 induction n with
 | zero => decide
 | succ n ih => exact h _ ih
def z0H (t : Nat) : Nat := l0R t % 2
def z0c (t : Nat) : UInt64 := UInt64.ofNat (z0H t)
def e0X (r : Nat) (out : UInt64) (j : Nat) : UInt64 := out ||| shl (z0c (j + 7 * r)) (2 ^ j - 1)
def rcR (r k : Nat) : UInt64 := (List.range k).foldl (e0X r) 0
def l0S : List Nat := [
 0, 0, 0, 0, 0, 0, 0, 1, 0, 0, 0, 0, 0, 0, 0x80, 0x82, 0x80, 0, 0, 0, 0, 0, 0x80, 0x8a, 0x80, 0, 0, 0, 0x80, 0, 0x80, 0,
 0, 0, 0, 0, 0, 0, 0x80, 0x8b, 0, 0, 0, 0, 0x80, 0, 0, 1, 0x80, 0, 0, 0, 0x80, 0, 0x80, 0x81, 0x80, 0, 0, 0, 0, 0, 0x80, 9,
 0, 0, 0, 0, 0, 0, 0, 0x8a, 0, 0, 0, 0, 0, 0, 0, 0x88, 0, 0, 0, 0, 0x80, 0, 0x80, 9, 0, 0, 0, 0, 0x80, 0, 0, 0xa,
 0, 0, 0, 0, 0x80, 0, 0x80, 0x8b, 0x80, 0, 0, 0, 0, 0, 0, 0x8b, 0x80, 0, 0, 0, 0, 0, 0x80, 0x89, 0x80, 0, 0, 0, 0, 0, 0x80, 3,
 0x80, 0, 0, 0, 0, 0, 0x80, 2, 0x80, 0, 0, 0, 0, 0, 0, 0x80, 0, 0, 0, 0, 0, 0, 0x80, 0xa, 0x80, 0, 0, 0, 0x80, 0, 0, 0xa,
 0x80, 0, 0, 0, 0x80, 0, 0x80, 0x81, 0x80, 0, 0, 0, 0, 0, 0x80, 0x80, 0, 0, 0, 0, 0x80, 0, 0, 1, 0x80, 0, 0, 0, 0x80, 0, 0x80, 8]
def l0T (r : Nat) (c : UInt64) (n : Nat) : UInt64 := shl c 8 ||| (UInt8.ofNat (l0S.getD (8 * r + n) 0)).toUInt64
def rcP (r k : Nat) : UInt64 := (List.range k).foldl (l0T r) 0
theorem v0Q : ∀ r, r < 24 → rcP r 8 = rcR r 7 := by decide +kernel
def xy : Nat → Nat × Nat
 | 0 => (1, 0)
 | t + 1 => ((xy t).2, (2 * (xy t).1 + 3 * (xy t).2) % 5)
def e0Y (l : List Nat) (t : Nat) : List Nat := l.set ((xy t).1 + 5 * (xy t).2) ((t + 1) * (t + 2) / 2 % 64)
def a0v (k : Nat) : List Nat := (List.range k).foldl e0Y (List.replicate 25 0)
theorem x0Q (t : Nat) : (xy t).1 < 5 ∧ (xy t).2 < 5 := by
 induction t with
 | zero => decide
 | succ t ih => exact ⟨ih.2, Nat.mod_lt _ (by decide)⟩
def b0S (s : List UInt64) (i : Nat) (x : UInt8) : List UInt64 := s.set (i / 8) (wx (s.getD (i / 8) 0) (shl (wid x) (8 * (i % 8))))
def e0Z (s : List UInt64) (b : List UInt8) (k : Nat) : List UInt64 := (List.range k).foldl (fun s i => b0S s i (b.getD i 0)) s
def d0z (s : List UInt64) (i : Nat) : UInt8 := lo8 (shr (s.getD (i / 8) 0) (8 * (i % 8)))
def toB (s : List UInt64) (n : Nat) : List UInt8 := (List.range n).map (d0z s)
theorem e0g (s : List UInt64) (b : List UInt8) (k : Nat) : e0Z s b (k + 1) = b0S (e0Z s b k) k (b.getD k 0) := by simp [e0Z, List.range_succ]
theorem g0l (s : List UInt64) (b : List UInt8) (k : Nat) : (e0Z s b k).length = s.length := by
 induction k with
 | zero => simp [e0Z]
 | succ k ih => rw [e0g]; simp [b0S, ih]
theorem a0X (s : List UInt64) (n : Nat) : (toB s n).length = n := by simp [toB]
end Mvp
namespace Go.Proofs.YtemcankmggmgoaaGreatDoor
open Go.RowKit Go.Mv Mvp
theorem j0f {k : IntKind} {a b : Int} (h : a = b) : Ending.returned (.int k a) = .returned (.int k b) := by rw [h]
theorem s0U (x : UInt64) (k : Nat) (hk : k < 64) : wo (shl x (k % 64)) (shr x (64 - k % 64)) = l0E x k := by
 rw [Nat.mod_eq_of_lt hk]; rfl
theorem q0k (x : UInt64) (k : Nat) (hk : k < 64) (w : World) :
  Calls Tryz.prog 124 #[.int .u64 (x.toNat : Int), .int .i64 (k : Int)] w fun e w' => e = .returned (.int .u64 ((l0E x k).toNat : Int)) ∧ w = w' := by
 go_enter Tryz.func124, Tryz.ntmps124
 go_wp2
 go_ret
 exact ⟨j0f (by rw [← s0U x k hk]), rfl⟩
theorem n0i (x : UInt64) (k : Nat) (hk : k < 64) (w : World) :
  Calls Tryz.prog 129 #[.int .u64 (x.toNat : Int), .int .i64 (k : Int)] w fun e w' => e = .returned (.int .u64 ((l0E x k).toNat : Int)) ∧ ∃ n, w' = w.drewN n := by
 go_enter Tryz.func129, Tryz.ntmps129
 go_wp2
 go_quiet (fail)
 go_wp2
 go_ret
 exact ⟨rfl, nq, rfl⟩
theorem g0R (x y : Int) (w : World) (hx : 0 ≤ x) (hx' : x ≤ 1000) (hy : 0 ≤ y) (hy' : y ≤ 1000) :
  Calls Tryz.prog 128 #[.int .i64 x, .int .i64 y] w fun e w' => e = .returned (.int .i64 ((a0W x.toNat y.toNat : Nat) : Int)) ∧ w = w' := by
 go_enter Tryz.func128, Tryz.ntmps128
 go_wp2
 go_ret
 exact ⟨j0f (by unfold a0W; omega), rfl⟩
theorem o0t (i : Nat) (w : World) (hi : i ≤ 1000) :
  Calls Tryz.prog 125 #[.int .i64 (i : Int)] w fun e w' => e = .returned (.int .i64 ((d0x i : Nat) : Int)) ∧ w = w' := by
 go_enter Tryz.func125, Tryz.ntmps125
 go_wp2
 go_ret
 exact ⟨j0f (by unfold d0x; omega), rfl⟩
theorem v0R (t : Int) (w : World) (hx : 0 ≤ t) (hx' : t ≤ 1000) :
  Calls Tryz.prog 130 #[.int .i64 t] w fun e w' => e = .returned (.int .u64 ((z0c t.toNat).toNat : Int)) ∧ w = w' := by
 go_enter Tryz.func130, Tryz.ntmps130
 go_wp2
 go_loop [3, 4] (fun r i => ∃ k : Nat, (k : Int) ≤ t ∧ i = .int .i64 k ∧ r = .int .i64 (l0R k : Nat)) (fun _ i => (t - intOf i).toNat)
 case atStart => exact ⟨0, by omega, rfl, rfl⟩
 case round =>
  obtain ⟨k, hk, rfl, rfl⟩ := hrel
  have hb := v0P k
  by_cases hlt : (k : Int) < t
  ·by_cases hc : 255 < 2 * l0R k
   ·go_wp2
    go_round
    case rel =>
     refine ⟨k + 1, by omega, by go_num, ?_⟩
     have e := v0v (2 * l0R k) 369 (by omega) (by omega)
     have e2 : l0R (k + 1) = (2 * l0R k) ^^^ 369 := by rw [l0R, if_pos hc]
     rw [e2, ← e]; rfl
    case measure => simp [intOf]; omega
   ·go_wp2
    go_round
    case rel =>
     refine ⟨k + 1, by omega, by go_num, ?_⟩
     have e2 : l0R (k + 1) = 2 * l0R k := by rw [l0R, if_neg hc]
     rw [e2]; simp
    case measure => simp [intOf]; omega
  ·go_wp2
   go_ret
   have hkt : t.toNat = k := by omega
   refine ⟨j0f ?_, rfl⟩
   have e := p0z (l0R k) 1 (by omega) (by omega)
   rw [show (1 : Int) = ((1 : Nat) : Int) from rfl, e, IntKind.wrap_u64, hkt, z0c, z0H, nat_mask1]
   simp
end Go.Proofs.YtemcankmggmgoaaGreatDoor
