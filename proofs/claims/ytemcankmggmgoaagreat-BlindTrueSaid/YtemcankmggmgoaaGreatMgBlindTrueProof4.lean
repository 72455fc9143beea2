/- ; ; ; ; ; ; ; ; ; ; ; ; ; ; ; ; ; . -/
import Derived.Test.YtemcankmggmgoaaGreatMgBlindTrueProof3
import Derived.Test.YtemcankmggmgoaaGreatMgBlindTrueProof1
import Derived.Test.YtemcankmggmgoaaGreatMgBlindTrueProof2
import Derived.ChangeKeysEq
import Derived.StillTailTactics
set_option maxHeartbeats 16000000
set_option maxRecDepth 1000000

namespace Go.Mv
open Go.RowKit
section
variable {P : Program} {ops : Array Oper} {md : Region.Mode} {Q : Exit → Act → World → Prop} {S : World → Prop} {m : Nat}
def wpP (P : Program) (md : Region.Mode) (ops : Array Oper) (Q : Exit → Act → World → Prop) (S : World → Prop) (m : Nat) : Nat → Array Bool → Act → World → Prop
 | 0, listed, a, w => Region.ready md ops listed = [] ∧ Q .normal a w
 | f + 1, listed, a, w => (Region.ready md ops listed = [] → Q .normal a w) ∧
  ∀ i ∈ Region.ready md ops listed, wpOp P ops Q i (fun a' w' => (listed.getD m true = false → i ≠ m → S w') ∧ wpP P md ops Q S m f (listed.setIfInBounds i true) a' w') a w
theorem d0z : ∀ (f : Nat) (listed : Array Bool) (a : Act) (w : World), wpP P md ops Q S m f listed a w → wpAny P md ops Q f listed a w
 | 0, _, _, _, h => h
 | f + 1, _, _, _, h => ⟨h.1, fun i hi => wpOp_mono (fun a' w' h' => d0z f _ a' w' h'.2) (h.2 i hi)⟩
structure Cl (md : Region.Mode) (ops : Array Oper) (listed : Array Bool) : Prop where
 size : listed.size = ops.size
 closed : ∀ j oj, ops[j]? = some oj → listed.getD j false = true → ∀ e ∈ oj.after, Region.binds md e = true → listed.getD e.on false = true
theorem Cl.set {i : Nat} {listed : Array Bool} (inv : Cl md ops listed) (hi : i ∈ Region.ready md ops listed) : Cl md ops (listed.setIfInBounds i true) := by
 obtain ⟨_, oi, hoi, hall⟩ := mem_ready.1 hi
 refine ⟨by simp [inv.size], fun j oj hj hl e he hb => ?_⟩
 by_cases hij : i = j
 ·subst hij
  have : oj = oi := Option.some.inj (hj.symm.trans hoi)
  subst this
  exact getD_set_true (hall e he hb)
 ·rw [getD_set_ne false hij] at hl
  exact getD_set_true (inv.closed j oj hj hl e he hb)
def w0D (md : Region.Mode) (ops : Array Oper) (m : Nat) : Nat → Nat → Bool
 | 0, _ => false
 | f + 1, i => (List.range ops.size).any fun j => Region.waitsFor md ops j i && (decide (j = m) || w0D md ops m f j)
theorem f0d {listed : Array Bool} (inv : Cl md ops listed) : ∀ (f i : Nat), w0D md ops m f i = true → listed.getD i true = false → m ∉ Region.ready md ops listed
 | 0, i, h, _ => by cases h
 | f + 1, i, h, hun => by
  intro hr
  obtain ⟨j, hj, hj2⟩ := List.any_eq_true.1 h
  simp only [Bool.and_eq_true, Bool.or_eq_true, decide_eq_true_eq] at hj2
  obtain ⟨oj, hoj, e, he, hb, hon⟩ := Region.waitsFor_spec hj2.1
  rcases hj2.2 with rfl | hja
  ·obtain ⟨-, om, hom, hall⟩ := mem_ready.1 hr
   have : oj = om := Option.some.inj (hoj.symm.trans hom)
   subst this
   have h2 := hall e he hb
   rw [hon, getD_both hun] at h2
   cases h2
  ·cases hl : listed.getD j false with
   | true =>
    have h2 := inv.closed j oj hoj hl e he hb
    rw [hon, getD_both hun] at h2
    cases h2
   | false =>
    have hjs : j < listed.size := by rw [inv.size]; exact (Array.getElem?_eq_some_iff.1 hoj).1
    exact f0d inv f j hja (getD_in hjs hl) hr
theorem g0t {i : Nat} {oi : Oper} {v : Value} (hi : ops[i]? = some oi) (hsel : ∀ (j : Nat) (o : Oper) cs b, ops[j]? = some o → o.op ≠ .select cs b)
  (hQ : ∀ c a w, Q (.panic c) (a.put oi.dst v) w → Q (.panic c) a w) (him : i ≠ m) (hm : m < ops.size) :
  ∀ (f : Nat) (listed : Array Bool) (a : Act) (w : World), Cl md ops listed →
   (∀ j oj, ops[j]? = some oj → j ≠ i → listed.getD j true = false → (∀ e ∈ oj.after, Region.binds md e = true → e.on ≠ i) → oi.apart ops oj = true) →
   i ∈ Region.ready md ops listed → YieldsIf P ops (fun _ => True) oi v a → (listed.getD m true = false → S w) →
   wpP P md ops Q S m f (listed.setIfInBounds i true) (a.put oi.dst v) w → wpP P md ops Q S m (f + 1) listed a w := by
 intro f
 induction f with
 | zero =>
  intro listed a w inv _ hr hy hS H
  refine ⟨fun h => (by rw [h] at hr; cases hr), fun j hj => ?_⟩
  by_cases hji : j = i
  ·subst hji; exact hy.wpOp hi trivial ⟨fun h _ => hS h, H⟩
  ·have := ready_mono hj hji
   rw [H.1] at this
   cases this
 | succ f ih =>
  intro listed a w inv hfree hr hy hS H
  have hun := (mem_ready.1 hr).1
  refine ⟨fun h => (by rw [h] at hr; cases hr), fun j hj => ?_⟩
  by_cases hji : j = i
  ·subst hji; exact hy.wpOp hi trivial ⟨fun h _ => hS h, H⟩
  ·have h1 := H.2 j (ready_mono hj hji)
   obtain ⟨hjun, oj, hoj, hall⟩ := mem_ready.1 hj
   have hnot : ∀ e ∈ oj.after, Region.binds md e = true → e.on ≠ i := fun e he hb heq => by
    have h1 := hall e he hb
    rw [heq, getD_both hun] at h1
    cases h1
   have h2 := wpOp_putIf hoj (hfree j oj hoj hji hjun hnot) (fun cs b => hsel i oi cs b hi) (fun cs b => hsel j oj cs b hoj) hQ hy h1
   have hfree' : ∀ k ok, ops[k]? = some ok → k ≠ i → (listed.setIfInBounds j true).getD k true = false →
     (∀ e ∈ ok.after, Region.binds md e = true → e.on ≠ i) → oi.apart ops ok = true := fun k ok hk hki hun hno => by
    refine hfree k ok hk hki ?_ hno
    by_cases hjk : j = k
    ·subst hjk; exact hjun
    ·rw [getD_set_ne true hjk] at hun; exact hun
   refine wpOp_mono (fun a' w' h3 => ?_) h2
   have hS' : listed.getD m true = false → j ≠ m → S w' := fun hml hjm => h3.2.1 (by rw [getD_set_ne true him]; exact hml) hjm
   refine ⟨hS', ih (listed.setIfInBounds j true) a' w' (inv.set hj) hfree' (ready_mono hr (Ne.symm hji)) h3.1 (fun hml => ?_) ?_⟩
   ·by_cases hjm : j = m
    ·subst hjm
     have : (listed.setIfInBounds j true).getD j true = true := by
      have hs : j < listed.size := by rw [inv.size]; exact hm
      simp [hs]
     rw [this] at hml; cases hml
    ·exact hS' (by rwa [getD_set_ne true hjm] at hml) hjm
   ·rw [Array.setIfInBounds_comm _ _ hji]
    exact h3.2.2
theorem i0O {i af : Nat} {oi : Oper} {v : Value} (hi : ops[i]? = some oi) (hsel : ∀ (j : Nat) (o : Oper) cs b, ops[j]? = some o → o.op ≠ .select cs b)
  (hQ : ∀ c a w, Q (.panic c) (a.put oi.dst v) w → Q (.panic c) a w) (him : i ≠ m) (hanc : w0D md ops m af i = true) :
  ∀ (f : Nat) (listed : Array Bool) (a : Act) (w : World), Cl md ops listed → listed.getD m true = false →
   (∀ j oj, ops[j]? = some oj → j ≠ i → listed.getD j true = false → (∀ e ∈ oj.after, Region.binds md e = true → e.on ≠ i) → oi.apart ops oj = true) →
   i ∈ Region.ready md ops listed → YieldsIf P ops S oi v a → S w →
   wpP P md ops Q S m f (listed.setIfInBounds i true) (a.put oi.dst v) w → wpP P md ops Q S m (f + 1) listed a w := by
 intro f
 induction f with
 | zero =>
  intro listed a w inv _ _ hr hy hS H
  refine ⟨fun h => (by rw [h] at hr; cases hr), fun j hj => ?_⟩
  by_cases hji : j = i
  ·subst hji; exact hy.wpOp hi hS ⟨fun _ _ => hS, H⟩
  ·have := ready_mono hj hji
   rw [H.1] at this
   cases this
 | succ f ih =>
  intro listed a w inv hml hfree hr hy hS H
  have hun := (mem_ready.1 hr).1
  refine ⟨fun h => (by rw [h] at hr; cases hr), fun j hj => ?_⟩
  by_cases hji : j = i
  ·subst hji; exact hy.wpOp hi hS ⟨fun _ _ => hS, H⟩
  ·have hjm : j ≠ m := fun e => f0d inv af i hanc hun (e ▸ hj)
   have h1 := H.2 j (ready_mono hj hji)
   obtain ⟨hjun, oj, hoj, hall⟩ := mem_ready.1 hj
   have hnot : ∀ e ∈ oj.after, Region.binds md e = true → e.on ≠ i := fun e he hb heq => by
    have h1 := hall e he hb
    rw [heq, getD_both hun] at h1
    cases h1
   have h2 := wpOp_putIf hoj (hfree j oj hoj hji hjun hnot) (fun cs b => hsel i oi cs b hi) (fun cs b => hsel j oj cs b hoj) hQ hy h1
   have hfree' : ∀ k ok, ops[k]? = some ok → k ≠ i → (listed.setIfInBounds j true).getD k true = false →
     (∀ e ∈ ok.after, Region.binds md e = true → e.on ≠ i) → oi.apart ops ok = true := fun k ok hk hki hun hno => by
    refine hfree k ok hk hki ?_ hno
    by_cases hjk : j = k
    ·subst hjk; exact hjun
    ·rw [getD_set_ne true hjk] at hun; exact hun
   refine wpOp_mono (fun a' w' h3 => ?_) h2
   have hS' : S w' := h3.2.1 (by rw [getD_set_ne true him]; exact hml) hjm
   refine ⟨fun _ _ => hS', ih (listed.setIfInBounds j true) a' w' (inv.set hj) (by rw [getD_set_ne true hjm]; exact hml) hfree' (ready_mono hr (Ne.symm hji)) h3.1 hS' ?_⟩
   rw [Array.setIfInBounds_comm _ _ hji]
   exact h3.2.2
inductive Pl where
 | nil
 | w (i : Nat) (s : Pl)
 | t (i : Nat) (s : Pl)
 | r (i : Nat) (s : Pl)
 | m (i : Nat) (s : Pl)
 | b (i j : Nat) (s u : Pl)
 | c (i j k : Nat) (s u v : Pl)
def Pl.len : Pl → Nat
 | .nil => 0
 | .w _ s => s.len + 1
 | .t _ s => s.len + 1
 | .r _ s => s.len + 1
 | .m _ s => s.len + 1
 | .b _ _ s _ => s.len + 1
 | .c _ _ _ s _ _ => s.len + 1
def b0H (P : Program) (ops : Array Oper) (Q : Exit → Act → World → Prop) (S : World → Prop) : Pl → Act → World → Prop
 | .nil, a, w => Q .normal a w
 | .w i s, a, w => ∃ o v, ops[i]? = some o ∧ YieldsIf P ops (fun _ => True) o v a ∧ b0H P ops Q S s (a.put o.dst v) w
 | .t i s, a, w => ∃ o v, ops[i]? = some o ∧ YieldsIf P ops S o v a ∧ b0H P ops Q S s (a.put o.dst v) w
 | .r i s, a, w => ∃ o, ops[i]? = some o ∧ o.guard = none ∧ o.wp P a w (fun a' w' => S w' ∧ b0H P ops Q S s a' w') Q
 | .m i s, a, w => ∃ o, ops[i]? = some o ∧ o.guard = none ∧ o.wp P a w (fun a' w' => b0H P ops Q S s a' w') Q
 | .b i j s u, a, w => (∃ o, ops[i]? = some o ∧ o.guard = none ∧ o.wp P a w (fun a' w' => S w' ∧ b0H P ops Q S s a' w') Q) ∧
   (∃ o, ops[j]? = some o ∧ o.guard = none ∧ o.wp P a w (fun a' w' => S w' ∧ b0H P ops Q S u a' w') Q)
 | .c i j k s u v, a, w => (∃ o, ops[i]? = some o ∧ o.guard = none ∧ o.wp P a w (fun a' w' => S w' ∧ b0H P ops Q S s a' w') Q) ∧
   (∃ o, ops[j]? = some o ∧ o.guard = none ∧ o.wp P a w (fun a' w' => S w' ∧ b0H P ops Q S u a' w') Q) ∧
   (∃ o, ops[k]? = some o ∧ o.guard = none ∧ o.wp P a w (fun a' w' => S w' ∧ b0H P ops Q S v a' w') Q)
def c0b (md : Region.Mode) (ops : Array Oper) (m : Nat) : Pl → Array Bool → Bool
 | .nil, listed => (Region.ready md ops listed).isEmpty
 | .w i s, listed => decide (i ≠ m) && (Region.ready md ops listed).contains i && Region.free md ops listed i && c0b md ops m s (listed.setIfInBounds i true)
 | .t i s, listed => decide (i ≠ m) && decide (listed.getD m true = false) && (Region.ready md ops listed).contains i && Region.free md ops listed i && w0D md ops m ops.size i && c0b md ops m s (listed.setIfInBounds i true)
 | .r i s, listed => decide (i ≠ m) && decide (listed.getD m true = false) && decide (Region.ready md ops listed = [i]) && c0b md ops m s (listed.setIfInBounds i true)
 | .m i s, listed => (decide (i = m) || decide (listed.getD m true = true)) && decide (Region.ready md ops listed = [i]) && c0b md ops m s (listed.setIfInBounds i true)
 | .b i j s u, listed => decide (i ≠ m) && decide (j ≠ m) && decide (listed.getD m true = false) && decide (s.len = u.len) && decide (Region.ready md ops listed = [i, j]) && c0b md ops m s (listed.setIfInBounds i true) && c0b md ops m u (listed.setIfInBounds j true)
 | .c i j k s u v, listed => decide (i ≠ m) && decide (j ≠ m) && decide (k ≠ m) && decide (listed.getD m true = false) && decide (s.len = u.len) && decide (s.len = v.len) && decide (Region.ready md ops listed = [i, j, k]) && c0b md ops m s (listed.setIfInBounds i true) && c0b md ops m u (listed.setIfInBounds j true) && c0b md ops m v (listed.setIfInBounds k true)
theorem d0u {i : Nat} {o : Oper} {a : Act} {w : World} {K : Act → World → Prop} (ho : ops[i]? = some o) (hg : o.guard = none) (h : o.wp P a w K Q) : wpOp P ops Q i K a w := by
 unfold wpOp
 simp only [ho]
 rw [if_pos (by simp [Region.wanted, hg])]
 exact .inl h
theorem b0S {listed : Array Bool} {i : Nat} (h : i < listed.size) : (listed.setIfInBounds i true).getD i true = true := by simp [h]
theorem b0z (hsel : Region.noSelect ops = true) (hm : m < ops.size) (hQ : ∀ c (d : Option Tmp) v a w, Q (.panic c) (Act.put a d v) w → Q (.panic c) a w) :
  ∀ (s : Pl) (listed : Array Bool) (a : Act) (w : World), Cl md ops listed → c0b md ops m s listed = true → (listed.getD m true = false → S w) → b0H P ops Q S s a w → wpP P md ops Q S m s.len listed a w
 | .nil, listed, a, w, _, hB, _, h => ⟨by simpa [c0b] using hB, h⟩
 | .w i r, listed, a, w, inv, hB, hS, h => by
  obtain ⟨o, v, ho, hy, hK⟩ := h
  simp only [c0b, Bool.and_eq_true, decide_eq_true_eq] at hB
  obtain ⟨⟨⟨him, hr⟩, hf⟩, hB'⟩ := hB
  have hr' : i ∈ Region.ready md ops listed := by simpa using hr
  exact g0t ho (Region.noSelect_spec hsel) (fun c a w => hQ c o.dst v a w) him hm r.len listed a w inv (Region.free_spec ho hf) hr' hy hS
   (b0z hsel hm hQ r _ _ w (inv.set hr') hB' (fun h => hS (by rwa [getD_set_ne true him] at h)) hK)
 | .t i r, listed, a, w, inv, hB, hS, h => by
  obtain ⟨o, v, ho, hy, hK⟩ := h
  simp only [c0b, Bool.and_eq_true, decide_eq_true_eq] at hB
  obtain ⟨⟨⟨⟨⟨him, hml⟩, hr⟩, hf⟩, han⟩, hB'⟩ := hB
  have hr' : i ∈ Region.ready md ops listed := by simpa using hr
  exact i0O ho (Region.noSelect_spec hsel) (fun c a w => hQ c o.dst v a w) him han r.len listed a w inv hml (Region.free_spec ho hf) hr' hy (hS hml)
   (b0z hsel hm hQ r _ _ w (inv.set hr') hB' (fun _ => hS hml) hK)
 | .r i r, listed, a, w, inv, hB, hS, h => by
  obtain ⟨o, ho, hg, hK⟩ := h
  simp only [c0b, Bool.and_eq_true, decide_eq_true_eq] at hB
  obtain ⟨⟨⟨him, hml⟩, hr⟩, hB'⟩ := hB
  have hr' : i ∈ Region.ready md ops listed := by rw [hr]; simp
  refine ⟨fun h0 => (by rw [hr] at h0; cases h0), fun j hj => ?_⟩
  rw [hr] at hj
  have hj' : j = i := by simpa using hj
  subst hj'
  exact d0u ho hg (Oper.wp_mono (fun a' w' h' => ⟨fun _ _ => h'.1, b0z hsel hm hQ r _ a' w' (inv.set hr') hB' (fun _ => h'.1) h'.2⟩) hK)
 | .m i r, listed, a, w, inv, hB, hS, h => by
  obtain ⟨o, ho, hg, hK⟩ := h
  simp only [c0b, Bool.and_eq_true, Bool.or_eq_true, decide_eq_true_eq] at hB
  obtain ⟨⟨him, hr⟩, hB'⟩ := hB
  have hr' : i ∈ Region.ready md ops listed := by rw [hr]; simp
  refine ⟨fun h0 => (by rw [hr] at h0; cases h0), fun j hj => ?_⟩
  rw [hr] at hj
  have hj' : j = i := by simpa using hj
  subst hj'
  have hml : (listed.setIfInBounds j true).getD m true = true := by
   rcases him with e | e
   ·subst e; exact b0S (by rw [inv.size]; exact hm)
   ·by_cases e2 : j = m
    ·subst e2; exact b0S (by rw [inv.size]; exact hm)
    ·rw [getD_set_ne true e2]; exact e
  refine d0u ho hg (Oper.wp_mono (fun a' w' h' => ⟨fun h1 h2 => ?_, b0z hsel hm hQ r _ a' w' (inv.set hr') hB' (fun h1 => by rw [hml] at h1; cases h1) h'⟩) hK)
  rcases him with e | e
  ·exact absurd e h2
  ·rw [e] at h1; cases h1
 | .b i j r u, listed, a, w, inv, hB, hS, h => by
  obtain ⟨⟨o, ho, hg, hK⟩, ⟨o2, ho2, hg2, hK2⟩⟩ := h
  simp only [c0b, Bool.and_eq_true, decide_eq_true_eq] at hB
  obtain ⟨⟨⟨⟨⟨⟨him, hjm⟩, hml⟩, hlen⟩, hr⟩, hB1⟩, hB2⟩ := hB
  have hri : i ∈ Region.ready md ops listed := by rw [hr]; simp
  have hrj : j ∈ Region.ready md ops listed := by rw [hr]; simp
  refine ⟨fun h0 => (by rw [hr] at h0; cases h0), fun k hk => ?_⟩
  rw [hr] at hk
  have hk' : k = i ∨ k = j := by simpa using hk
  rcases hk' with e | e
  ·subst e
   exact d0u ho hg (Oper.wp_mono (fun a' w' h' => ⟨fun _ _ => h'.1, b0z hsel hm hQ r _ a' w' (inv.set hri) hB1 (fun _ => h'.1) h'.2⟩) hK)
  ·subst e
   rw [hlen]
   exact d0u ho2 hg2 (Oper.wp_mono (fun a' w' h' => ⟨fun _ _ => h'.1, b0z hsel hm hQ u _ a' w' (inv.set hrj) hB2 (fun _ => h'.1) h'.2⟩) hK2)
 | .c i j k r u v, listed, a, w, inv, hB, hS, h => by
  obtain ⟨⟨o, ho, hg, hK⟩, ⟨o2, ho2, hg2, hK2⟩, ⟨o3, ho3, hg3, hK3⟩⟩ := h
  simp only [c0b, Bool.and_eq_true, decide_eq_true_eq] at hB
  obtain ⟨⟨⟨⟨⟨⟨⟨⟨⟨him, hjm⟩, hkm⟩, hml⟩, hlen⟩, hlen2⟩, hr⟩, hB1⟩, hB2⟩, hB3⟩ := hB
  have hri : i ∈ Region.ready md ops listed := by rw [hr]; simp
  have hrj : j ∈ Region.ready md ops listed := by rw [hr]; simp
  have hrk : k ∈ Region.ready md ops listed := by rw [hr]; simp
  refine ⟨fun h0 => (by rw [hr] at h0; cases h0), fun q hk => ?_⟩
  rw [hr] at hk
  have hk' : q = i ∨ q = j ∨ q = k := by simpa using hk
  rcases hk' with e | e | e
  ·subst e
   exact d0u ho hg (Oper.wp_mono (fun a' w' h' => ⟨fun _ _ => h'.1, b0z hsel hm hQ r _ a' w' (inv.set hri) hB1 (fun _ => h'.1) h'.2⟩) hK)
  ·subst e
   show wpOp P ops Q _ (fun a' w' => _ ∧ wpP P md ops Q S m r.len _ a' w') a w
   rw [hlen]
   exact d0u ho2 hg2 (Oper.wp_mono (fun a' w' h' => ⟨fun _ _ => h'.1, b0z hsel hm hQ u _ a' w' (inv.set hrj) hB2 (fun _ => h'.1) h'.2⟩) hK2)
  ·subst e
   show wpOp P ops Q _ (fun a' w' => _ ∧ wpP P md ops Q S m r.len _ a' w') a w
   rw [hlen2]
   exact d0u ho3 hg3 (Oper.wp_mono (fun a' w' h' => ⟨fun _ _ => h'.1, b0z hsel hm hQ v _ a' w' (inv.set hrk) hB3 (fun _ => h'.1) h'.2⟩) hK3)
def l0g (ops : Array Oper) (m : Nat) (s : Pl) : Bool :=
 Region.noSelect ops && decide (m < ops.size) && decide (s.len = ops.size) && c0b .any ops m s (Array.replicate ops.size false)
theorem a0o {id : Nat} {a : Act} {w : World} {l : List Oper} (S : World → Prop) (m : Nat) (s : Pl) (hm : P.follows .mixedOrders = true) (hB : l0g l.toArray m s = true)
  (hS : S w.drew) (hQ : ∀ c (d : Option Tmp) v a w, Q (.panic c) (Act.put a d v) w → Q (.panic c) a w)
  (h : b0H P l.toArray Q S s a w.drew) : (Code.region id l.toArray true).wp P Q a w := by
 simp only [l0g, Bool.and_eq_true, decide_eq_true_eq] at hB
 obtain ⟨⟨⟨hsel, hms⟩, hlen⟩, hseq⟩ := hB
 have inv0 : Cl .any l.toArray (Array.replicate l.toArray.size false) :=
  ⟨by simp, fun j oj _ hl => (by rw [getD_replicate_false] at hl; cases hl)⟩
 have H := b0z (md := .any) hsel hms hQ s _ a w.drew inv0 hseq (fun _ => hS) h
 rw [hlen] at H
 exact wp_region_any hm (d0z _ _ _ _ H)
variable {l : List Oper} {i j : Nat} {s u : Pl} {a : Act} {w : World} {o o2 : Oper}
theorem a0g (h : Q .normal a w) : b0H P ops Q S .nil a w := h
theorem a0j (ho : l[i]? = some o) (hg : o.guard = none) {v : Value} (hv : ∀ wx, (execOp a.eval o).run P wx = .ok (.value v) wx) (h : b0H P l.toArray Q S s (a.put o.dst v) w) : b0H P l.toArray Q S (.w i s) a w :=
 ⟨o, v, by simpa using ho, .inl ⟨by simp [Region.wanted, hg], fun wx _ => hv wx⟩, h⟩
theorem d0G (ho : l[i]? = some o) (hg : o.guard = none) {v : Value} (hv : ∀ wx, S wx → (execOp a.eval o).run P wx = .ok (.value v) wx) (h : b0H P l.toArray Q S s (a.put o.dst v) w) : b0H P l.toArray Q S (.t i s) a w :=
 ⟨o, v, by simpa using ho, .inl ⟨by simp [Region.wanted, hg], hv⟩, h⟩
theorem a0s (ho : l[i]? = some o) (hg : o.guard = none) {ty : TypeId} {x : Operand} (hop : o.op = .load ty x) {g p : Nat} (hx : a.eval x = .pointer (some ⟨g, p, none⟩)) (cs : List Value) (hS : ∀ wx, S wx → wx.rangeAt g p cs)
  {d : TypeDesc} (hu : P.underlying ty = some d) (hd : d.isRow = true) (hi : (P.info? ty).map (·.size) = some cs.length) (h : b0H P l.toArray Q S s (a.put o.dst (.agg cs.toArray)) w) : b0H P l.toArray Q S (.t i s) a w :=
 ⟨o, _, by simpa using ho, yieldsIf_load_mid (by simp [Region.wanted, hg]) ty x hop g p hx cs d hS hu hd hi, h⟩
theorem a0w (ho : l[i]? = some o) (hg : o.guard = none) (h : o.wp P a w (fun a' w' => S w' ∧ b0H P l.toArray Q S s a' w') Q) : b0H P l.toArray Q S (.r i s) a w :=
 ⟨o, by simpa using ho, hg, h⟩
theorem a0q (ho : l[i]? = some o) (hg : o.guard = none) (h : o.wp P a w (fun a' w' => b0H P l.toArray Q S s a' w') Q) : b0H P l.toArray Q S (.m i s) a w :=
 ⟨o, by simpa using ho, hg, h⟩
theorem C0l {C F : Nat → World → Prop} (ho : l[i]? = some o) (hg : o.guard = none) (ho2 : l[j]? = some o2) (hg2 : o2.guard = none)
  (h1 : (∀ g w', C g w' → F g w') → o.wp P a w (fun a' w' => S w' ∧ b0H P l.toArray Q S s a' w') Q)
  (h2 : (∀ g w', C g w' → F g w') → o2.wp P a w (fun a' w' => S w' ∧ b0H P l.toArray Q S u a' w') Q)
  (h : ∀ g w', C g w' → F g w') : b0H P l.toArray Q S (.b i j s u) a w :=
 ⟨⟨o, by simpa using ho, hg, h1 h⟩, ⟨o2, by simpa using ho2, hg2, h2 h⟩⟩
theorem e0s {G : Prop} {C F : Nat → World → Prop} (h1 : (∀ g w', C g w' → F g w') → G) (h : ∀ g w', C g w' → F g w') : G := h1 h
theorem d0H (ho : l[i]? = some o) (hg : o.guard = none) (ho2 : l[j]? = some o2) (hg2 : o2.guard = none)
  (h1 : o.wp P a w (fun a' w' => S w' ∧ b0H P l.toArray Q S s a' w') Q)
  (h2 : o2.wp P a w (fun a' w' => S w' ∧ b0H P l.toArray Q S u a' w') Q) : b0H P l.toArray Q S (.b i j s u) a w :=
 ⟨⟨o, by simpa using ho, hg, h1⟩, ⟨o2, by simpa using ho2, hg2, h2⟩⟩
end
end Go.Mv
namespace Go.Proofs.YtemcankmggmgoaaGreat
section
open Go.RowKit Go.Mv Mvp
attribute [local irreducible] a0C lw mix cw b0k b0y b0j a0M a0n beN b0F a0P b0C a0J a0R elN
theorem e0K (m : Md) (gp : Nat) (w : World) (hok : m.Ok) (hpm : Has w gp (mdL m) 187)  :
  Calls Tryz.prog 148 #[.pointer (some ⟨gp, 0, none⟩)] w fun e w' => e = .returned (i4 (elN m 1)) ∧ Fr Nob w w' := by
 have HOK := qH hok
 have HPM := qH hpm
 clear hok hpm
 have st0 := St.start Nob w
 go_enter Tryz.func148, Tryz.ntmps148
 go_wp2_with (with_reducible refine wSk 2 ?_)
 refine a0a st0 rfl rfl (z := zAd) ap14 (cw 4 0) ap12 ?_
 intro g2 w1 st1
 clear st0
 go_wp2_with (with_reducible refine wSk 6 ?_)
 refine c0c rfl rfl Tryz.underlying111 rfl (HPM.out.keep st1.fr id) (cw 4 (B64 ^ 4 % m.M)) (B0Z m) ap9 ?_
 go_wp2_with (with_reducible refine wSn ?_)
 refine a0b st1 0 rfl rfl rfl rfl rfl ap5 ap9 (a0f _ _) ?_
 intro w2 st2
 clear st1
 have hr := st2.at 0 rfl
 have hfr := st2.fr
 clear st2
 go_wp2_with fail
 exact bodyPost_ret (a0v rfl rfl hr Tryz.underlying66 ap9) rfl ⟨by rw [← C0i m]; rfl, hfr⟩
theorem w0E (a : Nat) (w : World) :
  Calls Tryz.prog 172 #[i4 a] w fun e w' => e = .returned (i4 a) ∧ Fr Nob w w' := by
 have st0 := St.start Nob w
 go_enter Tryz.func172, Tryz.ntmps172
 go_wp2_with (with_reducible refine wSk 1 ?_)
 refine a0l st0 rfl rfl rfl (cw 4 a) rfl ?_
 intro g1 w1 st1
 clear st0
 go_wp2_with (with_reducible refine wSk 2 ?_)
 refine a0a st1 rfl rfl (z := zAd) ap14 (cw 4 0) ap12 ?_
 intro g2 w2 st2
 clear st1
 go_wp2_with (with_reducible refine wSk 3 ?_)
 refine a0k st2 0 rfl rfl rfl Tryz.underlying66 rfl ap9 ?_
 go_wp2_with (with_reducible refine wSn ?_)
 refine a0b st2 1 rfl rfl rfl rfl rfl ap5 ap9 (a0f _ _) ?_
 intro w3 st3
 clear st2
 have hr := st3.at 1 rfl
 have hfr := st3.fr
 clear st3
 go_wp2_with fail
 exact bodyPost_ret (a0v rfl rfl hr Tryz.underlying111 ap9) rfl ⟨rfl, hfr⟩
theorem g0u (a b : Nat) (w : World) (ha : a < B64 ^ 4) (hb : b < B64 ^ 4) :
  Calls Tryz.prog 145 #[i4 a, i4 b] w fun e w' => e = .returned (.bool (decide (a < b))) ∧ Fr Nob w w' := by
 have HA := qH ha
 have HB := qH hb
 clear ha hb
 have st0 := St.start Nob w
 go_enter Tryz.func145, Tryz.ntmps145
 go_wp2_with (with_reducible refine wSk 2 ?_)
 refine a0l st0 rfl rfl rfl (cw 4 a) rfl ?_
 intro g2 w1 st1
 clear st0
 go_wp2_with (with_reducible refine wSk 3 ?_)
 refine a0l st1 rfl rfl rfl (cw 4 b) rfl ?_
 intro g3 w2 st2
 clear st1
 have HCS := qH (f0s a b 4 HA.out HB.out)
 go_wp2_with (with_reducible refine wSk 8 ?_)
 refine a0k st2 0 rfl rfl rfl Tryz.underlying111 rfl ap9 ?_
 go_wp2_with (with_reducible refine wSk 9 ?_)
 refine a0k st2 1 rfl rfl rfl Tryz.underlying111 rfl ap9 ?_
 go_wp2_with fail
 refine (d0F a b _ HB.out).mono ?_
 rintro e' w3 ⟨rfl, hf3⟩
 have st3 := st2.keep hf3
 clear st2 hf3
 go_wp2_with (with_reducible refine wSk 5 ?_)
 refine a0a st3 rfl rfl (z := zAd) ap14 (cw 4 0) ap12 ?_
 intro g5 w4 st4
 clear st3
 go_wp2_with (with_reducible refine wSn ?_)
 refine a0b st4 2 rfl rfl rfl rfl rfl ap5 ap9 (a0f _ _) ?_
 intro w5 st5
 clear st4
 have hfr := st5.fr
 clear st5
 have hcs := HCS.out
 clear HCS
 by_cases hlt : a < b
 ·rw [if_pos hlt] at hcs
  rw [hcs]
  have HLT := qH hlt
  clear hlt hcs
  go_wp2_with fail
  go_ret
  exact ⟨by rw [decide_eq_true HLT.out]; rfl, hfr⟩
 ·rw [if_neg hlt] at hcs
  rw [hcs]
  have HLT := qH hlt
  clear hlt hcs
  go_wp2_with fail
  go_ret
  exact ⟨by rw [decide_eq_false HLT.out]; rfl, hfr⟩
theorem d0k (m : Md) (gp : Nat) (w : World) (hok : m.Ok) (hpm : Has w gp (mdL m) 187) (n : Nat) (hn : n < B64 ^ 4) :
  Calls Tryz.prog 147 #[.pointer (some ⟨gp, 0, none⟩), i4 n] w fun e w' => e = .returned (i4 (elN m n)) ∧ Fr Nob w w' := by
 have HOK := qH hok
 have HPM := qH hpm
 clear hok hpm
 have HN := qH hn
 clear hn
 have st0 := St.start Nob w
 go_enter Tryz.func147, Tryz.ntmps147
 go_wp2_with (with_reducible refine wSk 3 ?_)
 refine a0l st0 rfl rfl rfl (cw 4 n) rfl ?_
 intro g3 w1 st1
 clear st0
 go_wp2_with (with_reducible refine wSk 4 ?_)
 refine a0a st1 rfl rfl (z := zAd) ap14 (cw 4 0) ap12 ?_
 intro g4 w2 st2
 clear st1
 go_wp2_with fail
 refine wp_region_noPanic ?_
 refine a0o (fun wx => St Nob w wx [(g3, cw 4 n, 111), (g4, cw 4 0, 66)]) 7 (.w 0 (.t 1 (.w 2 (.w 3 (.w 4 (.t 5 (.r 6 (.m 7 .nil)))))))) ap14 ap14 st2.drew (fun _ _ _ _ _ h => h) ?_
 have hd2 := st2.drew
 clear st2
 refine a0j rfl rfl apW ?_
 try simp only [clL]
 refine a0s rfl rfl rfl rfl (cw 4 n) (fun wx hS => St.rangeL hS 0 rfl 0 _ dZl) Tryz.underlying111 rfl ap9 ?_
 try simp only [clL]
 refine a0j rfl rfl apW ?_
 try simp only [clL]
 refine a0j rfl rfl apW ?_
 try simp only [clL]
 refine a0j rfl rfl apW ?_
 try simp only [clL]
 refine a0s rfl rfl rfl rfl (cw 4 (B64 ^ 4 * B64 ^ 4 % m.M)) (fun wx hS => (HPM.out.keep (St.fr hS) id).range 9 _ (C0a m)) Tryz.underlying111 rfl ap9 ?_
 try simp only [clL]
 refine a0w rfl rfl ?_
 go_simp
 refine (h0Q m gp n (B64 ^ 4 * B64 ^ 4 % m.M) _ HOK.out (HPM.out.keep hd2.fr id) HN.out (Nat.mod_lt _ (by have := HOK.out.one; omega))).mono ?_
 rintro e' w3 ⟨rfl, hf3⟩
 have st3 := hd2.keep hf3
 clear hf3
 clear hd2
 refine ⟨st3, ?_⟩
 try simp only [clL]
 refine a0q rfl rfl ?_
 refine a0h st3 1 rfl rfl rfl rfl ap5 ap9 (a0f _ _) ?_
 intro w4 st4
 clear st3
 try simp only [Act.put]
 refine a0g ?_
 refine NoPanic.normal ?_
 have hr := st4.at 1 rfl
 have hfr := st4.fr
 clear st4
 go_wp2_with fail
 exact bodyPost_ret (a0v rfl rfl hr Tryz.underlying66 ap9) rfl ⟨by rw [← C0k m HOK.out n]; rfl, hfr⟩
theorem f0e (m : Md) (gp : Nat) (w : World) (hok : m.Ok) (hpm : Has w gp (mdL m) 187) (x : Nat) :
  Calls Tryz.prog 120 #[.pointer (some ⟨gp, 0, none⟩), i4 (elN m x)] w fun e w' => e = .returned (i4 (x % m.M)) ∧ Fr Nob w w' := by
 have HOK := qH hok
 have HPM := qH hpm
 clear hok hpm
 have hmul := fun wx (h : Has wx gp (mdL m) 187) => h0Q m gp (elN m x) 1 wx HOK.out h (i0N m HOK.out x) HOK.out.one
 rw [o0v m HOK.out x, ← b0V 1 ap15] at hmul
 have HMUL := qH hmul
 clear hmul
 have st0 := St.start Nob w
 go_enter Tryz.func120, Tryz.ntmps120
 go_wp2_with (with_reducible refine wSk 3 ?_)
 refine a0l st0 rfl rfl rfl (cw 4 (elN m x)) rfl ?_
 intro g3 w1 st1
 clear st0
 go_wp2_with (with_reducible refine wSk 4 ?_)
 refine a0a st1 rfl rfl (z := zAd) ap14 (cw 4 0) ap12 ?_
 intro g4 w2 st2
 clear st1
 go_wp2_with (with_reducible refine wSk 6 ?_)
 refine a0k st2 0 rfl rfl rfl Tryz.underlying66 rfl ap9 ?_
 go_wp2_with fail
 refine (HMUL.out _ (HPM.out.keep st2.fr id)).mono ?_
 rintro e' w3 ⟨rfl, hf3⟩
 have st3 := st2.keep hf3
 clear st2 hf3
 go_wp2_with fail
 refine (w0E (x % m.M) _).mono ?_
 rintro e' w4 ⟨rfl, hf4⟩
 have st4 := st3.keep hf4
 clear st3 hf4
 go_wp2_with (with_reducible refine wSn ?_)
 refine a0b st4 1 rfl rfl rfl rfl rfl ap5 ap9 (a0f _ _) ?_
 intro w5 st5
 clear st4
 have hr := st5.at 1 rfl
 have hfr := st5.fr
 clear st5
 go_wp2_with fail
 exact bodyPost_ret (a0v rfl rfl hr Tryz.underlying111 ap9) rfl ⟨rfl, hfr⟩
theorem g0v (m : Md) (gp : Nat) (w : World) (hok : m.Ok) (hpm : Has w gp (mdL m) 187) (x y : Nat) :
  Calls Tryz.prog 171 #[.pointer (some ⟨gp, 0, none⟩), i4 (elN m x), i4 (elN m y)] w fun e w' => e = .returned (i4 (elN m (x + y))) ∧ Fr Nob w w' := by
 have HOK := qH hok
 have HPM := qH hpm
 clear hok hpm
 have hx := l0f m HOK.out x
 have hy := l0f m HOK.out y
 have HCA := qH (t0s (elN m x) (elN m y) (Nat.lt_trans hx HOK.out.lt) (Nat.lt_trans hy HOK.out.lt))
 have HFIN := qH (j0U (elN m x + elN m y) m.M HOK.out.lt ap16)
 have H2 := qH (show (elN m x + elN m y) < 2 * B64 ^ 4 by have := HOK.out.lt; omega)
 clear hx hy
 have st0 := St.start Nob w
 go_enter Tryz.func171, Tryz.ntmps171
 go_wp2_with (with_reducible refine wSk 4 ?_)
 refine a0l st0 rfl rfl rfl (cw 4 (elN m x)) rfl ?_
 intro g4 w1 st1
 clear st0
 go_wp2_with (with_reducible refine wSk 5 ?_)
 refine a0l st1 rfl rfl rfl (cw 4 (elN m y)) rfl ?_
 intro g5 w2 st2
 clear st1
 go_wp2_with (with_reducible refine wSk 6 ?_)
 refine a0a st2 rfl rfl (z := zAd) ap14 (cw 4 0) ap12 ?_
 intro g6 w3 st3
 clear st2
 go_wp2_with (with_reducible refine wSk 12 ?_)
 refine a0k st3 0 rfl rfl rfl Tryz.underlying66 rfl ap9 ?_
 go_wp2_with (with_reducible refine wSk 13 ?_)
 refine a0k st3 1 rfl rfl rfl Tryz.underlying66 rfl ap9 ?_
 go_wp2_with fail
 refine (g0o (elN m x) (elN m y) _).mono ?_
 rintro e' w4 ⟨rfl, hf4⟩
 have st4 := st3.keep hf4
 clear st3 hf4
 go_wp2_with (with_reducible refine wSk 7 ?_)
 refine a0a st4 rfl rfl (z := zAd) ap14 (cw 4 0) ap12 ?_
 intro g7 w5 st5
 clear st4
 go_wp2_with (with_reducible refine wSn ?_)
 refine a0b st5 3 rfl rfl rfl rfl rfl ap5 ap9 (a0f _ _) ?_
 intro w6 st6
 clear st5
 go_wp2_with fail
 refine wp_region_noPanic ?_
 refine a0o (fun wx => St Nob w wx [(g4, cw 4 (elN m x), 66), (g5, cw 4 (elN m y), 66), (g6, cw 4 0, 66), (g7, cw 4 (elN m x + elN m y), 111)]) 11 (.t 0 (.w 1 (.w 2 (.w 3 (.t 4 (.b 5 9 (.w 6 (.w 7 (.w 8 (.r 9 (.r 10 (.m 11 .nil)))))) (.r 5 (.w 6 (.w 7 (.w 8 (.r 10 (.m 11 .nil)))))))))))) ap14 ap14 st6.drew (fun _ _ _ _ _ h => h) ?_
 have hd6 := st6.drew
 clear st6
 refine a0s rfl rfl rfl rfl (cw 4 (elN m x + elN m y)) (fun wx hS => St.rangeL hS 3 rfl 0 _ dZl) Tryz.underlying111 rfl ap9 ?_
 try simp only [clL]
 refine a0j rfl rfl apW ?_
 try simp only [clL]
 refine a0j rfl rfl apW ?_
 try simp only [clL]
 refine a0j rfl rfl apW ?_
 try simp only [clL]
 refine a0s rfl rfl rfl rfl (cw 4 m.M) (fun wx hS => (HPM.out.keep (St.fr hS) id).range 0 _ (l0T m)) Tryz.underlying111 rfl ap9 ?_
 try simp only [clL]
 refine C0l (C := fun g9 wz => St Nob w wz [(g4, cw 4 (elN m x), 66), (g5, cw 4 (elN m y), 66), (g6, cw 4 0, 66), (g7, cw 4 (elN m x + elN m y), 111), (g9, cw 4 ((elN m x + elN m y) + B64 ^ 4 - m.M), 111)]) (F := ?_) rfl rfl rfl rfl (fun key => ?_) (fun key => ?_) ?_
 rotate_left 1
 ·skip
  go_simp
  refine (d0F (elN m x + elN m y) m.M _ HOK.out.lt).mono ?_
  rintro e' w7 ⟨rfl, hf7⟩
  have st7 := hd6.keep hf7
  clear hf7
  refine ⟨st7, ?_⟩
  try simp only [clL]
  refine a0j rfl rfl apW ?_
  try simp only [clL]
  refine a0j rfl rfl apW ?_
  try simp only [clL]
  refine a0j rfl rfl apW ?_
  try simp only [clL]
  refine a0w rfl rfl ?_
  refine b0u st7 rfl (z := zAd) ap14 (cw 4 0) ap12 ?_
  intro g9 w8 st8
  refine ⟨St.less st8 ap17, ?_⟩
  try simp only [clL]
  refine a0w rfl rfl ?_
  refine a0h st8 4 rfl rfl rfl rfl ap5 ap9 (a0f _ _) ?_
  intro w9 st9
  refine ⟨St.less st9 ap17, ?_⟩
  try simp only [Act.put]
  refine a0q rfl rfl ?_
  go_simp
  try simp only [clL]
  refine a0g ?_
  exact key g9 _ st9
 ·skip
  refine b0u hd6 rfl (z := zAd) ap14 (cw 4 0) ap12 ?_
  intro g9 w10 st10
  refine ⟨St.less st10 ap17, ?_⟩
  try simp only [clL]
  refine a0w rfl rfl ?_
  go_simp
  refine (d0F (elN m x + elN m y) m.M _ HOK.out.lt).mono ?_
  rintro e' w11 ⟨rfl, hf11⟩
  have st11 := st10.keep hf11
  clear hf11
  refine ⟨St.less st11 ap17, ?_⟩
  try simp only [clL]
  refine a0j rfl rfl apW ?_
  try simp only [clL]
  refine a0j rfl rfl apW ?_
  try simp only [clL]
  refine a0j rfl rfl apW ?_
  try simp only [clL]
  refine a0w rfl rfl ?_
  refine a0h st11 4 rfl rfl rfl rfl ap5 ap9 (a0f _ _) ?_
  intro w12 st12
  refine ⟨St.less st12 ap17, ?_⟩
  try simp only [Act.put]
  refine a0q rfl rfl ?_
  go_simp
  try simp only [clL]
  refine a0g ?_
  exact key g9 _ st12
 intro g9 w13 st13
 have st13 : St Nob w w13 [(g4, cw 4 (elN m x), 66), (g5, cw 4 (elN m y), 66), (g6, cw 4 0, 66), (g7, cw 4 (elN m x + elN m y), 111), (g9, cw 4 ((elN m x + elN m y) + B64 ^ 4 - m.M), 111)] := st13
 clear hd6
 refine NoPanic.normal ?_
 have hca := HCA.out
 have hfin := HFIN.out
 rw [hca]
 by_cases hlt2 : (elN m x + elN m y) < m.M
 ·obtain ⟨f1, f2, f3⟩ := hfin.1 hlt2
  rw [f1, f2]
  have HF := qH f3
  clear hca hfin f1 f2 f3 hlt2
  go_wp2_with (with_reducible refine wSk 32 ?_)
  refine a0k st13 3 rfl rfl rfl Tryz.underlying111 rfl ap9 ?_
  go_wp2_with (with_reducible refine wSn ?_)
  refine a0b st13 2 rfl rfl rfl rfl rfl ap5 ap9 (a0f _ _) ?_
  intro w14 st14
  clear st13
  have hr := st14.at 2 rfl
  have hfr := st14.fr
  clear st14
  go_wp2_with fail
  exact bodyPost_ret (a0v rfl rfl hr Tryz.underlying66 ap9) rfl ⟨by rw [← p0U]; unfold i4; rw [HF.out], hfr⟩
 ·obtain ⟨f3, f4⟩ := hfin.2 hlt2
  have HF := qH f3
  by_cases hlt3 : (elN m x + elN m y) < B64 ^ 4
  ·obtain ⟨f1, f2⟩ := f4 hlt3
   rw [f1, f2]
   clear hca hfin f1 f2 f3 f4 hlt2 hlt3
   go_wp2_with (with_reducible refine wSk 33 ?_)
   refine a0k st13 4 rfl rfl rfl Tryz.underlying111 rfl ap9 ?_
   go_wp2_with (with_reducible refine wSn ?_)
   refine a0b st13 2 rfl rfl rfl rfl rfl ap5 ap9 (a0f _ _) ?_
   intro w14 st14
   clear st13
   have hr := st14.at 2 rfl
   have hfr := st14.fr
   clear st14
   go_wp2_with fail
   exact bodyPost_ret (a0v rfl rfl hr Tryz.underlying66 ap9) rfl ⟨by rw [← p0U]; unfold i4; rw [HF.out], hfr⟩
  ·have f1 := t0e _ H2.out hlt3
   rw [f1]
   clear hca hfin f1 f3 f4 hlt2 hlt3
   go_wp2_with (with_reducible refine wSk 33 ?_)
   refine a0k st13 4 rfl rfl rfl Tryz.underlying111 rfl ap9 ?_
   go_wp2_with (with_reducible refine wSn ?_)
   refine a0b st13 2 rfl rfl rfl rfl rfl ap5 ap9 (a0f _ _) ?_
   intro w14 st14
   clear st13
   have hr := st14.at 2 rfl
   have hfr := st14.fr
   clear st14
   go_wp2_with fail
   exact bodyPost_ret (a0v rfl rfl hr Tryz.underlying66 ap9) rfl ⟨by rw [← p0U]; unfold i4; rw [HF.out], hfr⟩
theorem p0V (m : Md) (gp : Nat) (w : World) (hok : m.Ok) (hpm : Has w gp (mdL m) 187) (x y : Nat) :
  Calls Tryz.prog 182 #[.pointer (some ⟨gp, 0, none⟩), i4 (elN m x), i4 (elN m y)] w fun e w' => e = .returned (i4 (elN m (x + (m.M - y % m.M)))) ∧ Fr Nob w w' := by
 have HOK := qH hok
 have HPM := qH hpm
 clear hok hpm
 have hx := l0f m HOK.out x
 have hy := l0f m HOK.out y
 have HY4 := qH (Nat.lt_trans hy HOK.out.lt)
 have HCS := qH (f0s (elN m x) (elN m y) 4 (Nat.lt_trans hx HOK.out.lt) (Nat.lt_trans hy HOK.out.lt))
 have HSA := qH (m0R (elN m x) (elN m y) m.M hx hy HOK.out.lt)
 have HSB := qH (m0S (elN m x) (elN m y) m.M hx hy)
 clear hx hy
 have st0 := St.start Nob w
 go_enter Tryz.func182, Tryz.ntmps182
 go_wp2_with (with_reducible refine wSk 4 ?_)
 refine a0l st0 rfl rfl rfl (cw 4 (elN m x)) rfl ?_
 intro g4 w1 st1
 clear st0
 go_wp2_with (with_reducible refine wSk 5 ?_)
 refine a0l st1 rfl rfl rfl (cw 4 (elN m y)) rfl ?_
 intro g5 w2 st2
 clear st1
 go_wp2_with (with_reducible refine wSk 6 ?_)
 refine a0a st2 rfl rfl (z := zAd) ap14 (cw 4 0) ap12 ?_
 intro g6 w3 st3
 clear st2
 go_wp2_with (with_reducible refine wSk 10 ?_)
 refine a0k st3 0 rfl rfl rfl Tryz.underlying66 rfl ap9 ?_
 go_wp2_with (with_reducible refine wSk 11 ?_)
 refine a0k st3 1 rfl rfl rfl Tryz.underlying66 rfl ap9 ?_
 go_wp2_with fail
 refine (d0F (elN m x) (elN m y) _ HY4.out).mono ?_
 rintro e' w4 ⟨rfl, hf4⟩
 have st4 := st3.keep hf4
 clear st3 hf4
 go_wp2_with (with_reducible refine wSk 7 ?_)
 refine a0a st4 rfl rfl (z := zAd) ap14 (cw 4 0) ap12 ?_
 intro g7 w5 st5
 clear st4
 go_wp2_with (with_reducible refine wSn ?_)
 refine a0b st5 3 rfl rfl rfl rfl rfl ap5 ap9 (a0f _ _) ?_
 intro w6 st6
 clear st5
 have hcs := HCS.out
 by_cases hlt : elN m x < elN m y
 ·rw [if_pos hlt] at hcs
  rw [hcs]
  have HV := qH (HSA.out hlt)
  clear hcs hlt
  go_wp2_with fail
  refine wp_region_noPanic ?_
  refine a0o (fun wx => St Nob w wx [(g4, cw 4 (elN m x), 66), (g5, cw 4 (elN m y), 66), (g6, cw 4 0, 66), (g7, cw 4 (elN m x + B64 ^ 4 - elN m y), 111)]) 9 (.t 0 (.w 1 (.w 2 (.w 3 (.t 4 (.r 5 (.w 6 (.w 7 (.w 8 (.m 9 .nil)))))))))) ap14 ap14 st6.drew (fun _ _ _ _ _ h => h) ?_
  have hd6 := st6.drew
  clear st6
  refine a0s rfl rfl rfl rfl (cw 4 (elN m x + B64 ^ 4 - elN m y)) (fun wx hS => St.rangeL hS 3 rfl 0 _ dZl) Tryz.underlying111 rfl ap9 ?_
  try simp only [clL]
  refine a0j rfl rfl apW ?_
  try simp only [clL]
  refine a0j rfl rfl apW ?_
  try simp only [clL]
  refine a0j rfl rfl apW ?_
  try simp only [clL]
  refine a0s rfl rfl rfl rfl (cw 4 m.M) (fun wx hS => (HPM.out.keep (St.fr hS) id).range 0 _ (l0T m)) Tryz.underlying111 rfl ap9 ?_
  try simp only [clL]
  refine a0w rfl rfl ?_
  go_simp
  refine (g0o (elN m x + B64 ^ 4 - elN m y) m.M _).mono ?_
  rintro e' w7 ⟨rfl, hf7⟩
  have st7 := hd6.keep hf7
  clear hf7
  clear hd6
  refine ⟨st7, ?_⟩
  try simp only [clL]
  refine a0j rfl rfl apW ?_
  try simp only [clL]
  refine a0j rfl rfl apW ?_
  try simp only [clL]
  refine a0j rfl rfl apW ?_
  try simp only [clL]
  refine a0q rfl rfl ?_
  refine a0h st7 3 rfl rfl rfl rfl ap5 ap9 (a0f _ _) ?_
  intro w8 st8
  clear st7
  try simp only [Act.put]
  refine a0g ?_
  refine NoPanic.normal ?_
  go_wp2_with (with_reducible refine wSk 26 ?_)
  refine a0k st8 3 rfl rfl rfl Tryz.underlying111 rfl ap9 ?_
  go_wp2_with (with_reducible refine wSn ?_)
  refine a0b st8 2 rfl rfl rfl rfl rfl ap5 ap9 (a0f _ _) ?_
  intro w9 st9
  clear st8
  have hr := st9.at 2 rfl
  have hfr := st9.fr
  clear st9
  go_wp2_with fail
  exact bodyPost_ret (a0v rfl rfl hr Tryz.underlying66 ap9) rfl ⟨by rw [← y0L m HOK.out]; unfold i4; rw [← HV.out], hfr⟩
 ·rw [if_neg hlt] at hcs
  rw [hcs]
  have HV := qH (HSB.out hlt)
  clear hcs hlt
  go_wp2_with (with_reducible refine wSk 26 ?_)
  refine a0k st6 3 rfl rfl rfl Tryz.underlying111 rfl ap9 ?_
  go_wp2_with (with_reducible refine wSn ?_)
  refine a0b st6 2 rfl rfl rfl rfl rfl ap5 ap9 (a0f _ _) ?_
  intro w7 st7
  clear st6
  have hr := st7.at 2 rfl
  have hfr := st7.fr
  clear st7
  go_wp2_with fail
  exact bodyPost_ret (a0v rfl rfl hr Tryz.underlying66 ap9) rfl ⟨by rw [← y0L m HOK.out]; unfold i4; rw [← HV.out], hfr⟩
theorem l0h (m : Md) (gp : Nat) (w : World) (hok : m.Ok) (hpm : Has w gp (mdL m) 187) (x : Nat) :
  Calls Tryz.prog 135 #[.pointer (some ⟨gp, 0, none⟩), i4 (elN m x)] w fun e w' => e = .returned (i4 (elN m (m.M - x % m.M))) ∧ Fr Nob w w' := by
 have HOK := qH hok
 have HPM := qH hpm
 clear hok hpm
 have hsub := fun wx (h : Has wx gp (mdL m) 187) => p0V m gp wx HOK.out h 0 x
 rw [e0a m, ← b0V 0 ap15] at hsub
 have HSUB := qH hsub
 clear hsub
 have st0 := St.start Nob w
 go_enter Tryz.func135, Tryz.ntmps135
 go_wp2_with (with_reducible refine wSk 3 ?_)
 refine a0l st0 rfl rfl rfl (cw 4 (elN m x)) rfl ?_
 intro g3 w1 st1
 clear st0
 go_wp2_with (with_reducible refine wSk 4 ?_)
 refine a0a st1 rfl rfl (z := zAd) ap14 (cw 4 0) ap12 ?_
 intro g4 w2 st2
 clear st1
 go_wp2_with (with_reducible refine wSk 7 ?_)
 refine a0k st2 0 rfl rfl rfl Tryz.underlying66 rfl ap9 ?_
 go_wp2_with fail
 refine (HSUB.out _ (HPM.out.keep st2.fr id)).mono ?_
 rintro e' w3 ⟨rfl, hf3⟩
 have st3 := st2.keep hf3
 clear st2 hf3
 go_wp2_with (with_reducible refine wSn ?_)
 refine a0b st3 1 rfl rfl rfl rfl rfl ap5 ap9 (a0f _ _) ?_
 intro w4 st4
 clear st3
 have hr := st4.at 1 rfl
 have hfr := st4.fr
 clear st4
 go_wp2_with fail
 exact bodyPost_ret (a0v rfl rfl hr Tryz.underlying66 ap9) rfl ⟨rfl, hfr⟩
theorem w0F (m : Md) (gp : Nat) (w : World) (hok : m.Ok) (hpm : Has w gp (mdL m) 187) (x y : Nat) :
  Calls Tryz.prog 152 #[.pointer (some ⟨gp, 0, none⟩), i4 (elN m x), i4 (elN m y)] w fun e w' => e = .returned (i4 (elN m (x * y))) ∧ Fr Nob w w' := by
 have h := h0Q m gp (elN m x) (elN m y) w hok hpm (i0N m hok x) (l0f m hok y)
 rwa [C0j m hok] at h
theorem d0I (m : Md) (gp : Nat) (w : World) (hok : m.Ok) (hpm : Has w gp (mdL m) 187) (x : Nat) :
  Calls Tryz.prog 151 #[.pointer (some ⟨gp, 0, none⟩), i4 (elN m x)] w fun e w' => e = .returned (i4 (elN m (x * x))) ∧ Fr Nob w w' := by
 have HOK := qH hok
 have HPM := qH hpm
 clear hok hpm
 have st0 := St.start Nob w
 go_enter Tryz.func151, Tryz.ntmps151
 go_wp2_with (with_reducible refine wSk 3 ?_)
 refine a0l st0 rfl rfl rfl (cw 4 (elN m x)) rfl ?_
 intro g3 w1 st1
 clear st0
 go_wp2_with (with_reducible refine wSk 4 ?_)
 refine a0a st1 rfl rfl (z := zAd) ap14 (cw 4 0) ap12 ?_
 intro g4 w2 st2
 clear st1
 go_wp2_with (with_reducible refine wSk 6 ?_)
 refine a0k st2 0 rfl rfl rfl Tryz.underlying66 rfl ap9 ?_
 go_wp2_with (with_reducible refine wSk 7 ?_)
 refine a0k st2 0 rfl rfl rfl Tryz.underlying66 rfl ap9 ?_
 go_wp2_with fail
 refine (w0F m gp _ HOK.out (HPM.out.keep st2.fr id) x x).mono ?_
 rintro e' w3 ⟨rfl, hf3⟩
 have st3 := st2.keep hf3
 clear st2 hf3
 go_wp2_with (with_reducible refine wSn ?_)
 refine a0b st3 1 rfl rfl rfl rfl rfl ap5 ap9 (a0f _ _) ?_
 intro w4 st4
 clear st3
 have hr := st4.at 1 rfl
 have hfr := st4.fr
 clear st4
 go_wp2_with fail
 exact bodyPost_ret (a0v rfl rfl hr Tryz.underlying66 ap9) rfl ⟨rfl, hfr⟩
end
section
open Go.RowKit Go.Mv Mvp
attribute [local irreducible] a0C lw mix cw b0k b0y b0j a0M a0n beN b0F a0P b0C a0J a0R elN
theorem C0m (m : Md) (x n i : Nat) (h : n / 2 ^ i % 2 = 0) : elN m (x ^ (n / 2 ^ (i + 1)) * x ^ (n / 2 ^ (i + 1))) = elN m (x ^ (n / 2 ^ i)) := by
 have := e0p n i
 rw [h, Nat.two_mul, Nat.add_zero] at this
 rw [← Nat.pow_add, this]
theorem C0n (m : Md) (x n i : Nat) (h : n / 2 ^ i % 2 = 1) : elN m (x ^ (n / 2 ^ (i + 1)) * x ^ (n / 2 ^ (i + 1)) * x) = elN m (x ^ (n / 2 ^ i)) := by
 have := e0p n i
 rw [h, Nat.two_mul] at this
 rw [← Nat.pow_add, ← Nat.pow_succ, this]
theorem t0t (m : Md) (x n : Nat) (h : n < B64 ^ 4) : elN m (x ^ (n / 2 ^ 256)) = elN m 1 := by
 rw [Nat.div_eq_of_lt (Nat.lt_of_lt_of_le h ap15), Nat.pow_zero]
theorem t0u (m : Md) (x n : Nat) : elN m (x ^ (n / 2 ^ 0)) = elN m (x ^ n) := by rw [Nat.pow_zero, Nat.div_one]
theorem C0o (m : Md) (n i : Nat) (h : n / 2 ^ i % 2 = 0) : elN m (n / 2 ^ (i + 1) + n / 2 ^ (i + 1)) = elN m (n / 2 ^ i) := by
 have := e0p n i
 rw [h, Nat.two_mul, Nat.add_zero] at this
 rw [this]
theorem C0p (m : Md) (n i : Nat) (h : n / 2 ^ i % 2 = 1) : elN m (n / 2 ^ (i + 1) + n / 2 ^ (i + 1) + 1) = elN m (n / 2 ^ i) := by
 have := e0p n i
 rw [h, Nat.two_mul] at this
 rw [this]
theorem h0S (m : Md) (gp : Nat) (w : World) (hok : m.Ok) (hpm : Has w gp (mdL m) 187) (x n : Nat) (hn : n < B64 ^ 4) :
  Calls Tryz.prog 188 #[.pointer (some ⟨gp, 0, none⟩), i4 (elN m x), i4 n] w fun e w' => e = .returned (i4 (elN m (x ^ n))) ∧ Fr Nob w w' := by
 have HOK := qH hok
 have HPM := qH hpm
 clear hok hpm
 have HN := qH hn
 have HTOP := qH (t0t m x n hn)
 clear hn
 have st0 := St.start Nob w
 go_enter Tryz.func188, Tryz.ntmps188
 go_wp2_with (with_reducible refine wSk 4 ?_)
 refine a0l st0 rfl rfl rfl (cw 4 (elN m x)) rfl ?_
 intro g4 w1 st1
 clear st0
 go_wp2_with (with_reducible refine wSk 5 ?_)
 refine a0l st1 rfl rfl rfl (cw 4 n) rfl ?_
 intro g5 w2 st2
 clear st1
 go_wp2_with (with_reducible refine wSk 6 ?_)
 refine a0a st2 rfl rfl (z := zAd) ap14 (cw 4 0) ap12 ?_
 intro g6 w3 st3
 clear st2
 go_wp2_with fail
 refine (e0K m gp _ HOK.out (HPM.out.keep st3.fr id)).mono ?_
 rintro e' w4 ⟨rfl, hf4⟩
 have st4 := st3.keep hf4
 clear st3 hf4
 go_wp2_with (with_reducible refine wSk 7 ?_)
 refine a0a st4 rfl rfl (z := zAd) ap14 (cw 4 0) ap12 ?_
 intro g7 w5 st5
 clear st4
 go_wp2_with (with_reducible refine wSn ?_)
 refine a0b st5 3 rfl rfl rfl rfl rfl ap5 ap9 (a0f _ _) ?_
 intro w6 st6
 clear st5
 go_wp2
 go_loopw [8] (fun i wr => ∃ j : Nat, j ≤ 256 ∧ i = .int .i64 ((j : Int) - 1) ∧ St Nob w wr [(g4, cw 4 (elN m x), 66), (g5, cw 4 n, 111), (g6, cw 4 0, 66), (g7, cw 4 (elN m (x ^ (n / 2 ^ j))), 66)]) (fun i _ => (intOf i + 1).toNat)
 case atStart => exact ⟨256, by omega, rfl, by rw [HTOP.out]; exact st6⟩
 case round =>
  obtain ⟨j, hj, rfl, st⟩ := hrel
  clear st6
  cases j with
  | succ i =>
   rw [show (((i + 1 : Nat) : Int)) - 1 = (i : Int) by omega]
   have hge : (0 : Int) ≤ (i : Int) := by omega
   go_wp2_with (with_reducible refine wSk 16 ?_)
   refine a0k st 3 rfl rfl rfl Tryz.underlying66 rfl ap9 ?_
   go_wp2_with fail
   refine (d0I m gp _ HOK.out (HPM.out.keep st.fr id) (x ^ (n / 2 ^ (i + 1)))).mono ?_
   rintro e' w7 ⟨rfl, hf7⟩
   have st7 := st.keep hf7
   clear st hf7
   go_wp2_with (with_reducible refine wSn ?_)
   refine a0b st7 3 rfl rfl rfl rfl rfl ap5 ap9 (a0f _ _) ?_
   intro w8 st8
   clear st7
   go_wp2_with (with_reducible refine wSk 18 ?_)
   refine a0k st8 1 rfl rfl rfl Tryz.underlying111 rfl ap9 ?_
   go_wp2_with fail
   refine (p0O n i _ ap16).mono ?_
   rintro e' w9 ⟨rfl, hf9⟩
   have st9 := st8.keep hf9
   clear st8 hf9
   have hbt : n / 2 ^ i % 2 = 0 ∨ n / 2 ^ i % 2 = 1 := by omega
   have HS0 := qH (C0m m x n i)
   have HS1 := qH (C0n m x n i)
   generalize hbb : n / 2 ^ i % 2 = bt at *
   have HBB := qH hbb
   clear hbb
   rcases hbt with rfl | rfl
   ·have hst := st9
    rw [HS0.out (by first | rfl | trivial)] at hst
    clear st9
    go_wp2
    go_roundw
    case rel => exact ⟨i, by omega, rfl, hst⟩
    case measure => simp [intOf]
   ·skip
    go_wp2_with (with_reducible refine wSk 23 ?_)
    refine a0k st9 3 rfl rfl rfl Tryz.underlying66 rfl ap9 ?_
    go_wp2_with (with_reducible refine wSk 24 ?_)
    refine a0k st9 0 rfl rfl rfl Tryz.underlying66 rfl ap9 ?_
    go_wp2_with fail
    refine (w0F m gp _ HOK.out (HPM.out.keep st9.fr id) ((x ^ (n / 2 ^ (i + 1))) * (x ^ (n / 2 ^ (i + 1)))) x).mono ?_
    rintro e' w10 ⟨rfl, hf10⟩
    have st10 := st9.keep hf10
    clear st9 hf10
    go_wp2_with (with_reducible refine wSn ?_)
    refine a0b st10 3 rfl rfl rfl rfl rfl ap5 ap9 (a0f _ _) ?_
    intro w11 st11
    clear st10
    have hst := st11
    rw [HS1.out (by first | rfl | trivial)] at hst
    clear st11
    go_wp2
    go_roundw
    case rel => exact ⟨i, by omega, rfl, hst⟩
    case measure => simp [intOf]
  | zero =>
   rw [show (((0 : Nat) : Int)) - 1 = -1 by omega]
   go_wp2_with (with_reducible refine wSk 26 ?_)
   refine a0k st 3 rfl rfl rfl Tryz.underlying66 rfl ap9 ?_
   go_wp2_with (with_reducible refine wSn ?_)
   refine a0b st 2 rfl rfl rfl rfl rfl ap5 ap9 (a0f _ _) ?_
   intro w7 st7
   clear st
   have hr := st7.at 2 rfl
   have hfr := st7.fr
   clear st7
   go_wp2_with fail
   exact bodyPost_ret (a0v rfl rfl hr Tryz.underlying66 ap9) rfl ⟨by rw [← t0u]; rfl, hfr⟩
theorem w0G (m : Md) (gp : Nat) (w : World) (hok : m.Ok) (hpm : Has w gp (mdL m) 187) (x : Nat) :
  Calls Tryz.prog 150 #[.pointer (some ⟨gp, 0, none⟩), i4 (elN m x)] w fun e w' => e = .returned (i4 (elN m (x ^ (m.M - 2)))) ∧ Fr Nob w w' := by
 have HOK := qH hok
 have HPM := qH hpm
 clear hok hpm
 have HM2 := qH (show m.M - 2 < B64 ^ 4 by have := HOK.out.lt; omega)
 have h2m := fun wx => d0F m.M 2 wx ap15
 rw [i0G m.M 2 (by have := HOK.out.one; omega), ← b0V 2 ap15] at h2m
 have H2M := qH h2m
 clear h2m
 have st0 := St.start Nob w
 go_enter Tryz.func150, Tryz.ntmps150
 go_wp2_with (with_reducible refine wSk 3 ?_)
 refine a0l st0 rfl rfl rfl (cw 4 (elN m x)) rfl ?_
 intro g3 w1 st1
 clear st0
 go_wp2_with (with_reducible refine wSk 4 ?_)
 refine a0a st1 rfl rfl (z := zAd) ap14 (cw 4 0) ap12 ?_
 intro g4 w2 st2
 clear st1
 go_wp2_with (with_reducible refine wSk 11 ?_)
 refine c0c rfl rfl Tryz.underlying111 rfl (HPM.out.keep st2.fr id) (cw 4 m.M) (l0T m) ap9 ?_
 go_wp2_with fail
 refine (H2M.out _).mono ?_
 rintro e' w3 ⟨rfl, hf3⟩
 have st3 := st2.keep hf3
 clear st2 hf3
 go_wp2_with (with_reducible refine wSk 5 ?_)
 refine a0a st3 rfl rfl (z := zAd) ap14 (cw 4 0) ap12 ?_
 intro g5 w4 st4
 clear st3
 go_wp2_with (with_reducible refine wSn ?_)
 refine a0b st4 2 rfl rfl rfl rfl rfl ap5 ap9 (a0f _ _) ?_
 intro w5 st5
 clear st4
 go_wp2_with (with_reducible refine wSk 17 ?_)
 refine a0k st5 0 rfl rfl rfl Tryz.underlying66 rfl ap9 ?_
 go_wp2_with (with_reducible refine wSk 18 ?_)
 refine a0k st5 2 rfl rfl rfl Tryz.underlying111 rfl ap9 ?_
 go_wp2_with fail
 refine (h0S m gp _ HOK.out (HPM.out.keep st5.fr id) x (m.M - 2) HM2.out).mono ?_
 rintro e' w6 ⟨rfl, hf6⟩
 have st6 := st5.keep hf6
 clear st5 hf6
 go_wp2_with (with_reducible refine wSn ?_)
 refine a0b st6 1 rfl rfl rfl rfl rfl ap5 ap9 (a0f _ _) ?_
 intro w7 st7
 clear st6
 have hr := st7.at 1 rfl
 have hfr := st7.fr
 clear st7
 go_wp2_with fail
 exact bodyPost_ret (a0v rfl rfl hr Tryz.underlying66 ap9) rfl ⟨rfl, hfr⟩
theorem m0T (m : Md) (gp : Nat) (w : World) (hok : m.Ok) (hpm : Has w gp (mdL m) 187) (a : Option Addr) (n c : Nat) (l : List UInt8) (hb : RdB w a n l) (hn : n ≤ 32) :
  Calls Tryz.prog 195 #[.pointer (some ⟨gp, 0, none⟩), .slice a n c] w fun e w' => e = .returned (i4 (elN m (beN l))) ∧ Fr Nob w w' := by
 have HOK := qH hok
 have HPM := qH hpm
 clear hok hpm
 have HN := qH hn
 have HBB := qH hb
 have hbl := f0t l (by rw [hb.len]; exact hn)
 have HBL := qH hbl
 have HTOP := qH (show elN m (beN l / 2 ^ 256) = 0 by rw [Nat.div_eq_of_lt (Nat.lt_of_lt_of_le hbl ap15), e0a])
 have HALL := qH (show elN m (beN l / 2 ^ 0) = elN m (beN l) by rw [Nat.pow_zero, Nat.div_one])
 clear hb hbl
 clear hn
 have st0 := St.start Nob w
 go_enter Tryz.func195, Tryz.ntmps195
 go_wp2_with (with_reducible refine wSk 4 ?_)
 refine a0a st0 rfl rfl (z := zAd) ap14 (cw 4 0) ap12 ?_
 intro g4 w1 st1
 clear st0
 go_wp2_with fail
 refine (c0k a n c l _ (HBB.out.still st1.fr) HN.out).mono ?_
 rintro e' w2 ⟨rfl, hf2⟩
 have st2 := st1.keep hf2
 clear st1 hf2
 go_wp2_with (with_reducible refine wSk 5 ?_)
 refine a0a st2 rfl rfl (z := zAd) ap14 (cw 4 0) ap12 ?_
 intro g5 w3 st3
 clear st2
 go_wp2_with (with_reducible refine wSn ?_)
 refine a0b st3 1 rfl rfl rfl rfl rfl ap5 ap4 (a0f _ _) ?_
 intro w4 st4
 clear st3
 go_wp2_with fail
 refine wp_region_noPanic ?_
 refine a0o (fun wx => St Nob w wx [(g4, cw 4 0, 66), (g5, cw 4 (beN l), 111)]) 5 (.t 0 (.w 1 (.w 2 (.w 3 (.t 4 (.m 5 .nil)))))) ap14 ap14 st4.drew (fun _ _ _ _ _ h => h) ?_
 have hd4 := st4.drew
 clear st4
 refine a0s rfl rfl rfl rfl (cw 4 (beN l)) (fun wx hS => St.rangeL hS 1 rfl 0 _ dZl) Tryz.underlying111 rfl ap4 ?_
 try simp only [clL]
 refine a0j rfl rfl apW ?_
 try simp only [clL]
 refine a0j rfl rfl apW ?_
 try simp only [clL]
 refine a0j rfl rfl apW ?_
 try simp only [clL]
 refine a0s rfl rfl rfl rfl (cw 4 m.M) (fun wx hS => (HPM.out.keep (St.fr hS) id).range 0 _ (l0T m)) Tryz.underlying111 rfl ap4 ?_
 try simp only [clL]
 refine a0q rfl rfl ?_
 go_simp
 refine (g0u (beN l) m.M _ HBL.out HOK.out.lt).mono ?_
 rintro e' w5 ⟨rfl, hf5⟩
 have st5 := hd4.keep hf5
 clear hf5
 clear hd4
 try simp only []
 refine a0g ?_
 refine NoPanic.normal ?_
 by_cases hlt : beN l < m.M
 ·have hd := decide_eq_true hlt
  have HLT := qH hlt
  rw [hd]
  clear hd hlt
  go_wp2_with (with_reducible refine wSk 18 ?_)
  refine a0k st5 1 rfl rfl rfl Tryz.underlying111 rfl ap4 ?_
  go_wp2_with fail
  refine (d0k m gp _ HOK.out (HPM.out.keep st5.fr id) (beN l) HBL.out).mono ?_
  rintro e' w6 ⟨rfl, hf6⟩
  have st6 := st5.keep hf6
  clear st5 hf6
  go_wp2_with (with_reducible refine wSn ?_)
  refine a0b st6 0 rfl rfl rfl rfl rfl ap5 ap4 (a0f _ _) ?_
  intro w7 st7
  clear st6
  have hr := st7.at 0 rfl
  have hfr := st7.fr
  clear st7
  go_wp2_with fail
  exact bodyPost_ret (a0v rfl rfl hr Tryz.underlying66 ap4) rfl ⟨rfl, hfr⟩
 ·have hd := decide_eq_false hlt
  rw [hd]
  clear hd hlt
  go_wp2_with (with_reducible refine wSk 6 ?_)
  refine a0a st5 rfl rfl (z := zAd) ap14 (cw 4 0) ap12 ?_
  intro g6 w6 st6
  clear st5
  go_wp2_with fail
  refine (e0K m gp _ HOK.out (HPM.out.keep st6.fr id)).mono ?_
  rintro e' w7 ⟨rfl, hf7⟩
  have st7 := st6.keep hf7
  clear st6 hf7
  go_wp2_with (with_reducible refine wSk 7 ?_)
  refine a0a st7 rfl rfl (z := zAd) ap14 (cw 4 0) ap12 ?_
  intro g7 w8 st8
  clear st7
  go_wp2_with (with_reducible refine wSn ?_)
  refine a0b st8 3 rfl rfl rfl rfl rfl ap5 ap4 (a0f _ _) ?_
  intro w9 st9
  clear st8
  go_wp2
  go_loopw [8] (fun i wr => ∃ j : Nat, j ≤ 256 ∧ i = .int .i64 ((j : Int) - 1) ∧ St Nob w wr [(g4, cw 4 0, 66), (g5, cw 4 (beN l), 111), (g6, cw 4 (elN m (beN l / 2 ^ j)), 66), (g7, cw 4 (elN m 1), 66)]) (fun i _ => (intOf i + 1).toNat)
  case atStart => exact ⟨256, by omega, rfl, by rw [HTOP.out]; exact st9⟩
  case round =>
   obtain ⟨j, hj, rfl, st⟩ := hrel
   clear st9
   cases j with
   | succ i =>
    rw [show (((i + 1 : Nat) : Int)) - 1 = (i : Int) by omega]
    have hge : (0 : Int) ≤ (i : Int) := by omega
    go_wp2_with (with_reducible refine wSk 27 ?_)
    refine a0k st 2 rfl rfl rfl Tryz.underlying66 rfl ap4 ?_
    go_wp2_with (with_reducible refine wSk 28 ?_)
    refine a0k st 2 rfl rfl rfl Tryz.underlying66 rfl ap4 ?_
    go_wp2_with fail
    refine (g0v m gp _ HOK.out (HPM.out.keep st.fr id) (beN l / 2 ^ (i + 1)) (beN l / 2 ^ (i + 1))).mono ?_
    rintro e' w10 ⟨rfl, hf10⟩
    have st10 := st.keep hf10
    clear st hf10
    go_wp2_with (with_reducible refine wSn ?_)
    refine a0b st10 2 rfl rfl rfl rfl rfl ap5 ap4 (a0f _ _) ?_
    intro w11 st11
    clear st10
    go_wp2_with (with_reducible refine wSk 30 ?_)
    refine a0k st11 1 rfl rfl rfl Tryz.underlying111 rfl ap4 ?_
    go_wp2_with fail
    refine (p0O (beN l) i _ ap16).mono ?_
    rintro e' w12 ⟨rfl, hf12⟩
    have st12 := st11.keep hf12
    clear st11 hf12
    have hbt : beN l / 2 ^ i % 2 = 0 ∨ beN l / 2 ^ i % 2 = 1 := by omega
    have HS0 := qH (C0o m (beN l) i)
    have HS1 := qH (C0p m (beN l) i)
    generalize hbb : beN l / 2 ^ i % 2 = bt at *
    have HBT := qH hbb
    clear hbb
    rcases hbt with rfl | rfl
    ·have hst := st12
     rw [HS0.out (by first | rfl | trivial)] at hst
     clear st12
     go_wp2
     go_roundw
     case rel => exact ⟨i, by omega, rfl, hst⟩
     case measure => simp [intOf]
    ·skip
     go_wp2_with (with_reducible refine wSk 35 ?_)
     refine a0k st12 2 rfl rfl rfl Tryz.underlying66 rfl ap4 ?_
     go_wp2_with (with_reducible refine wSk 36 ?_)
     refine a0k st12 3 rfl rfl rfl Tryz.underlying66 rfl ap4 ?_
     go_wp2_with fail
     refine (g0v m gp _ HOK.out (HPM.out.keep st12.fr id) ((beN l / 2 ^ (i + 1)) + (beN l / 2 ^ (i + 1))) 1).mono ?_
     rintro e' w13 ⟨rfl, hf13⟩
     have st13 := st12.keep hf13
     clear st12 hf13
     go_wp2_with (with_reducible refine wSn ?_)
     refine a0b st13 2 rfl rfl rfl rfl rfl ap5 ap4 (a0f _ _) ?_
     intro w14 st14
     clear st13
     have hst := st14
     rw [HS1.out (by first | rfl | trivial)] at hst
     clear st14
     go_wp2
     go_roundw
     case rel => exact ⟨i, by omega, rfl, hst⟩
     case measure => simp [intOf]
   | zero =>
    rw [show (((0 : Nat) : Int)) - 1 = -1 by omega]
    go_wp2_with (with_reducible refine wSk 38 ?_)
    refine a0k st 2 rfl rfl rfl Tryz.underlying66 rfl ap4 ?_
    go_wp2_with (with_reducible refine wSn ?_)
    refine a0b st 0 rfl rfl rfl rfl rfl ap5 ap4 (a0f _ _) ?_
    intro w10 st10
    clear st
    have hr := st10.at 0 rfl
    have hfr := st10.fr
    clear st10
    go_wp2_with fail
    exact bodyPost_ret (a0v rfl rfl hr Tryz.underlying66 ap4) rfl ⟨rfl, hfr⟩
end
section
open Go.RowKit Go.Mv Mvp
attribute [local irreducible] a0C lw mix cw b0k b0y b0j a0M a0n beN b0F a0P b0C a0J a0R elN
theorem w0H (m : Md) (h : m.Ok) (x : Nat) : elN m x * (B64 ^ 4 * B64 ^ 4 % m.M) * m.Ri % m.M = elN m (x * B64 ^ 4) := by
 rw [C0k m h]
 refine h0R m ?_
 unfold elN
 rw [Nat.mod_mod]
theorem C0q (m : Md) (gp : Nat) (w : World) (hok : m.Ok) (hpm : Has w gp (mdL m) 187) (x : Nat) :
  Calls Tryz.prog 152 #[.pointer (some ⟨gp, 0, none⟩), i4 (elN m x), i4 (B64 ^ 4 * B64 ^ 4 % m.M)] w fun e w' => e = .returned (i4 (elN m (x * B64 ^ 4))) ∧ Fr Nob w w' := by
 have h := h0Q m gp (elN m x) (B64 ^ 4 * B64 ^ 4 % m.M) w hok hpm (i0N m hok x) (Nat.mod_lt _ (by have := hok.one; omega))
 rwa [w0H m hok] at h
def lnV : Value → Nat
 | .slice _ n _ => n
 | _ => 0
theorem RdB.front {w : World} {a : Option Addr} {n : Nat} {l : List UInt8} (h : RdB w a n l) (k : Nat) (hk : k ≤ n) : RdB w a k (l.take k) := by
 have h' : Rd w a n (bs l) := h
 refine ⟨by rw [a0I, List.length_take, h.len]; omega, ?_⟩
 rcases h'.2 with h0 | ⟨b, o, rfl, hc⟩
 ·exact .inl ap16
 ·refine .inr ⟨b, o, rfl, fun i v hv => hc i v ?_⟩
  rw [← e0y, List.getElem?_take] at hv
  split at hv
  ·exact hv
  ·cases hv
theorem RdB.behind {w : World} {a : Option Addr} {n c : Nat} {l : List UInt8} (h : RdB w a n l) (k : Nat) (hk : k ≤ n) (hc : n ≤ c) : RdB w (c0H a k c) (n - k) (l.drop k) := by
 have h1 := k0N (m := c) h k n hk hc (Nat.le_refl _)
 unfold RdB
 rw [n0Q] at h1
 rwa [List.take_of_length_le (by rw [a0I, List.length_drop, h.len]; exact Nat.le_refl _)] at h1
theorem o0w (m : Md) (gp : Nat) (w : World) (hok : m.Ok) (hpm : Has w gp (mdL m) 187) (a : Option Addr) (n c : Nat) (l : List UInt8) (hb : RdB w a n l) (hc : n ≤ c) (hn : n ≤ 1000000) :
  Calls Tryz.prog 170 #[.pointer (some ⟨gp, 0, none⟩), .slice a n c] w fun e w' => e = .returned (i4 (beN l % m.M)) ∧ Fr Nob w w' := by
 have HOK := qH hok
 have HPM := qH hpm
 clear hok hpm
 have HC := qH hc
 have HN := qH hn
 have HBB := qH hb
 have HL := qH hb.len
 clear hb
 clear hc hn
 have st0 := St.start Nob w
 go_enter Tryz.func170, Tryz.ntmps170
 go_wp2_with (with_reducible refine wSk 4 ?_)
 refine a0a st0 rfl rfl (z := zAd) ap14 (cw 4 0) ap12 ?_
 intro g4 w1 st1
 clear st0
 go_wp2_with (with_reducible refine wSk 5 ?_)
 refine a0a st1 rfl rfl (z := zAd) ap14 (cw 4 0) ap12 ?_
 intro g5 w2 st2
 clear st1
 go_wp2
 go_frame
 go_loopw [1] (fun b wr => ∃ (r : Nat) (ar : Option Addr) (cr : Nat), r ≤ n ∧ (r = 0 ∨ (n - r) % 32 = 0) ∧ b = .slice ar (n - r) cr ∧ n - r ≤ cr ∧ RdB w ar (n - r) (l.drop r) ∧ St Nob w wr [(g4, cw 4 0, 111), (g5, cw 4 (elN m (beN (l.take r))), 66)]) (fun b _ => lnV b % 32)
 case atStart => exact ⟨0, a, c, by omega, .inl rfl, rfl, HC.out, HBB.out, by rw [List.take_zero, o0r, e0a]; exact st2⟩
 case round =>
  obtain ⟨r, ar, cr, hr, hcond, rfl, hcr, hrd, st⟩ := hrel
  clear st2
  have HCR := qH hcr
  have HRD := qH hrd
  have hn6 : n ≤ 1000000 := HN.out
  clear hcr hrd
  by_cases hm : (n - r) % 32 = 0
  ·have hne : ((((n - r : Nat) : Int) % 32) != 0) = false := by simp; omega
   have hcond2 : (n - r) % 32 = 0 := hm
   have HM := qH hm
   have HC2 := qH hcond2
   clear hm hcond hcond2
   generalize hk : n - r = k at *
   have HK := qH hk; clear hk
   go_wp2_with fail
   clear hne
   obtain ⟨wo, rfl⟩ : ∃ wo : World, wo = wr := ⟨_, rfl⟩
   go_loopw [1] (fun b wr => ∃ (r : Nat) (ar : Option Addr) (cr : Nat), r ≤ n ∧ (n - r) % 32 = 0 ∧ b = .slice ar (n - r) cr ∧ n - r ≤ cr ∧ RdB w ar (n - r) (l.drop r) ∧ St Nob w wr [(g4, cw 4 0, 111), (g5, cw 4 (elN m (beN (l.take r))), 66)]) (fun b _ => lnV b)
   case atStart => exact ⟨r, ar, cr, hr, by rw [HK.out]; exact HC2.out, by rw [HK.out], by rw [HK.out]; exact HCR.out, by rw [HK.out]; exact HRD.out, st⟩
   case round =>
    clear hr HCR HRD st HM HC2 HK
    obtain ⟨r, ar, cr, hr, hcond, rfl, hcr, hrd, st⟩ := hrel
    have HCR := qH hcr
    have HRD := qH hrd
    have HCO := qH hcond
    clear hcr hrd
    by_cases hz : r = n
    ·have HZ := qH hz
     have hkz : ((n - r : Nat) : Int) = 0 := by omega
     have hgt : (0 < ((n - r : Nat) : Int)) = False := by simp; omega
     clear hz hcond
     generalize n - r = k at *
     have hgt2 : ¬ (0 < (k : Int)) := by omega
     clear hgt hkz
     go_wp2_with (with_reducible refine wSk 41 ?_)
     refine a0k st 1 rfl rfl rfl Tryz.underlying66 rfl ap4 ?_
     go_wp2_with fail
     refine (f0e m gp _ HOK.out (HPM.out.keep st.fr id) (beN (l.take r))).mono ?_
     rintro e' w3 ⟨rfl, hf3⟩
     have st3 := st.keep hf3
     clear st hf3
     go_wp2_with (with_reducible refine wSn ?_)
     refine a0b st3 0 rfl rfl rfl rfl rfl ap5 ap4 (a0f _ _) ?_
     intro w4 st4
     clear st3
     have hr := st4.at 0 rfl
     have hfr := st4.fr
     clear st4
     go_wp2_with fail
     exact bodyPost_ret (a0v rfl rfl hr Tryz.underlying111 ap4) rfl ⟨by rw [HZ.out, List.take_of_length_le (by rw [HL.out]; exact Nat.le_refl _)]; rfl, hfr⟩
    ·have hk32 : 32 ≤ n - r := by omega
     obtain ⟨gb, ob, hAR, -⟩ := HRD.out.at ap16
     have hcut : c0H ar 32 cr = if cr = 32 then ar else some ⟨gb, ob + 32, none⟩ := by rw [hAR]; simp [c0H, d0S]
     have HAR := qH hAR; clear hAR
     have HCUT := qH hcut; clear hcut
     have hfr := RdB.front HRD.out 32 hk32
     have hbe := RdB.behind HRD.out 32 hk32 HCR.out
     have htk := m0L l r 32 (by rw [HL.out]; omega)
     rw [show (256 : Nat) ^ 32 = B64 ^ 4 by decide] at htk
     have HFR := qH hfr
     have HBE := qH hbe
     have HTK := qH htk
     have hcr := HCR.out
     have k1 := fun wx => d0T (P := Tryz.prog) wx Tryz.underlying22 c0F ar (n - r) cr .i64 32 ap16
     have k2 := fun wx => h0t (P := Tryz.prog) wx Tryz.underlying22 c0F ar (n - r) cr .i64 32 ap16
     clear hz hcond hfr hbe htk hcr
     have hgt : (0 < ((n - r : Nat) : Int)) := by omega
     have hk3 : 32 ≤ n - r := hk32
     have hci : (32 : Int) ≤ (cr : Int) := by have := HCR.out; omega
     clear hk32
     generalize hkk : n - r = k at *
     have HKK := qH hkk; clear hkk
     go_wp2_with fail
     refine wp_region_noPanic ?_
     refine a0o (fun wx => St Nob w wx [(g4, cw 4 0, 111), (g5, cw 4 (elN m (beN (l.take r))), 66)]) 13 (.w 0 (.w 1 (.t 2 (.w 3 (.w 4 (.w 5 (.t 6 (.w 8 (.w 9 (.w 10 (.r 7 (.r 11 (.r 12 (.m 13 .nil)))))))))))))) ap14 ap14 st.drew (fun _ _ _ _ _ h => h) ?_
     have hd2 := st.drew
     clear st
     refine a0j rfl rfl apW ?_
     try simp only [clL]
     refine a0j rfl rfl apW ?_
     try simp only [clL]
     refine a0s rfl rfl rfl rfl (cw 4 (elN m (beN (l.take r)))) (fun wx hS => St.rangeL hS 1 rfl 0 _ dZl) Tryz.underlying66 rfl ap4 ?_
     try simp only [clL]
     refine a0j rfl rfl apW ?_
     try simp only [clL]
     refine a0j rfl rfl apW ?_
     try simp only [clL]
     refine a0j rfl rfl apW ?_
     try simp only [clL]
     refine a0s rfl rfl rfl rfl (cw 4 (B64 ^ 4 * B64 ^ 4 % m.M)) (fun wx hS => (HPM.out.keep (St.fr hS) id).range 9 _ (C0a m)) Tryz.underlying111 rfl ap4 ?_
     try simp only [clL]
     refine a0j rfl rfl apW ?_
     try simp only [clL]
     refine a0j rfl rfl apW ?_
     try simp only [clL]
     refine a0j rfl rfl apW ?_
     try simp only [clL]
     refine a0w rfl rfl ?_
     go_simp
     refine (C0q m gp _ HOK.out (HPM.out.keep hd2.fr id) (beN (l.take r))).mono ?_
     rintro e' w3 ⟨rfl, hf3⟩
     have st3 := hd2.keep hf3
     clear hf3
     clear hd2
     refine ⟨st3, ?_⟩
     try simp only [clL]
     refine a0w rfl rfl ?_
     go_simp
     refine (m0T m gp _ HOK.out (HPM.out.keep st3.fr id) ar 32 cr ((l.drop r).take 32) (HFR.out.still st3.fr) ap15).mono ?_
     rintro e' w4 ⟨rfl, hf4⟩
     have st4 := st3.keep hf4
     clear hf4
     clear st3
     refine ⟨st4, ?_⟩
     try simp only [clL]
     refine a0w rfl rfl ?_
     go_simp
     refine (g0v m gp _ HOK.out (HPM.out.keep st4.fr id) ((beN (l.take r)) * B64 ^ 4) (beN ((l.drop r).take 32))).mono ?_
     rintro e' w5 ⟨rfl, hf5⟩
     have st5 := st4.keep hf5
     clear hf5
     clear st4
     refine ⟨st5, ?_⟩
     try simp only [clL]
     refine a0q rfl rfl ?_
     refine a0h st5 1 rfl rfl rfl rfl ap5 ap4 (a0f _ _) ?_
     intro w6 st6
     clear st5
     try simp only [Act.put]
     refine a0g ?_
     refine NoPanic.normal ?_
     have hst := st6
     rw [← HTK.out] at hst
     clear st6
     go_wp2_with fail
     go_roundw
     case rel =>
      refine ⟨r + 32, c0H ar 32 cr, cr - 32, ?_, ?_, ?_, ?_, ?_, hst⟩
      ·have := HKK.out; omega
      ·have h1 := HCO.out; have h2 := HKK.out; omega
      ·have h2 := HKK.out; rw [show n - (r + 32) = k - 32 by omega, HCUT.out, HAR.out]; rfl
      ·have h2 := HKK.out; have h3 := HCR.out; omega
      ·have h2 := HKK.out
       have h3 := HBE.out
       rw [List.drop_drop] at h3
       rw [show n - (r + 32) = k - 32 by omega]
       exact h3
     case measure => simp [lnV]; omega
  ·have hne : ((((n - r : Nat) : Int) % 32) != 0) = true := by simp; omega
   have hr0 : r = 0 := by rcases hcond with h | h <;> omega
   subst hr0
   have hk32 : n % 32 ≤ n - 0 := by omega
   have hfr := RdB.front HRD.out (n % 32) hk32
   have hbe := RdB.behind HRD.out (n % 32) hk32 HCR.out
   have hcr := HCR.out
   have k1 := fun wx => d0T (P := Tryz.prog) wx Tryz.underlying22 c0F ar (n - 0) cr .i64 (n % 32) ap16
   have k2 := fun wx => h0t (P := Tryz.prog) wx Tryz.underlying22 c0F ar (n - 0) cr .i64 (n % 32) ap16
   have hm32 : n % 32 < 32 := Nat.mod_lt _ ap15
   have hmod : ((n % 32 : Nat) : Int) = (n : Int) % 32 := by omega
   simp only [List.drop_zero, Nat.sub_zero] at hfr hbe k1 k2 hne hm
   rw [hmod] at k1 k2
   have HFR := qH hfr
   have HBE := qH hbe
   have HM := qH hm
   have HM32 := qH hm32
   clear hm hfr hbe hcond hcr hk32 hr hmod hm32
   simp only [Nat.sub_zero]
   go_wp2_with fail
   refine (m0T m gp _ HOK.out (HPM.out.keep st.fr id) ar (n % 32) cr (l.take (n % 32)) (HFR.out.still st.fr) (Nat.le_of_lt HM32.out)).mono ?_
   rintro e' w3 ⟨rfl, hf3⟩
   have st3 := st.keep hf3
   clear st hf3
   go_wp2_with (with_reducible refine wSn ?_)
   refine a0b st3 1 rfl rfl rfl rfl rfl ap5 ap4 (a0f _ _) ?_
   intro w4 st4
   clear st3
   have hst := st4
   clear st4
   go_wp2_with fail
   go_roundw
   case rel => exact ⟨n % 32, c0H ar (n % 32) cr, cr - n % 32, by omega, .inr ap16, rfl, by have := HCR.out; omega, HBE.out, hst⟩
   case measure => have := HM.out; simp [lnV]; omega
end
section
open Go.RowKit Go.Mv Mvp
theorem p0W : [Value.int .u64 18446744069414583343, .int .u64 18446744073709551615, .int .u64 18446744073709551615, .int .u64 18446744073709551615, .int .u64 15580212934572586289, .int .u64 4294968273, .int .u64 0, .int .u64 0, .int .u64 0, .int .u64 8392367050913, .int .u64 1, .int .u64 0, .int .u64 0] = mdL mP := by kernel_rfl
theorem w0I : [Value.int .u64 13822214165235122497, .int .u64 13451932020343611451, .int .u64 18446744073709551614, .int .u64 18446744073709551615, .int .u64 5408259542528602431, .int .u64 4624529908474429119, .int .u64 4994812053365940164, .int .u64 1, .int .u64 0, .int .u64 9902555850136342848, .int .u64 8364476168144746616, .int .u64 16616019711348246470, .int .u64 11342065889886772165] = mdL mQ := by kernel_rfl
theorem Of0 (w : World) : Calls Tryz.prog 143 #[.int .i64 0] w fun e w' => ∃ g, e = .returned (.tuple #[.pointer (some ⟨g, 0, none⟩), .bool true]) ∧ w.heap.size ≤ g ∧ Has w' g (mdL mP) 187 ∧ Fr Nob w w' := by
 go_enter Tryz.func143, Tryz.ntmps143
 go_wp2
 go_ret2
 exact ⟨_, rfl, Nat.le_refl _, by rw [← p0W]; exact Has.new w _ _, (Fr.refl Nob w).alloc _⟩
theorem Of1 (w : World) : Calls Tryz.prog 143 #[.int .i64 1] w fun e w' => ∃ g, e = .returned (.tuple #[.pointer (some ⟨g, 0, none⟩), .bool true]) ∧ w.heap.size ≤ g ∧ Has w' g (mdL mQ) 187 ∧ Fr Nob w w' := by
 go_enter Tryz.func143, Tryz.ntmps143
 go_wp2
 go_ret2
 exact ⟨_, rfl, Nat.le_refl _, by rw [← w0I]; exact Has.new w _ _, (Fr.refl Nob w).alloc _⟩
end
section
open Go.RowKit Go.Mv Mvp
inductive KindOf : Int → Md → Prop where
 | zero : KindOf 0 mP
 | one : KindOf 1 mQ
theorem KindOf.ok {k : Int} {m : Md} (h : KindOf k m) : m.Ok := by cases h; exact b0Z; exact m0H
theorem OfK {k : Int} {m : Md} (hk : KindOf k m) (w : World) : Calls Tryz.prog 143 #[.int .i64 k] w fun e w' => ∃ g, e = .returned (.tuple #[.pointer (some ⟨g, 0, none⟩), .bool true]) ∧ w.heap.size ≤ g ∧ Has w' g (mdL m) 187 ∧ Fr Nob w w' := by
 cases hk
 ·exact Of0 w
 ·exact Of1 w
theorem C0r {k : Int} {m : Md} (hk : KindOf k m) (w : World) : Calls Tryz.prog 124 #[.int .i64 k] w fun e w' => e = .returned (fv m.M) ∧ Fr Nob w w' := by
 cases hk
 ·exact D0S w
 ·exact D0T w
attribute [local irreducible] a0C lw mix cw b0k b0y b0j a0M a0n beN b0F a0P b0C a0J a0R elN mdL
end
end Go.Proofs.YtemcankmggmgoaaGreat
namespace Go.Mv
open Go.RowKit
variable {P : Program}
def Kept (v : Value) (n sz : Nat) (w w' : World) : Prop :=
 ∀ b i, b < w.heap.size → (∀ o cap, v = .slice (some ⟨b, o, none⟩) n cap → i < o + n * sz) → w'.cell? ⟨b, i, none⟩ = w.cell? ⟨b, i, none⟩
theorem Kept.refl (v : Value) (n sz : Nat) (w : World) : Kept v n sz w w := fun _ _ _ _ => rfl
theorem Kept.ofFr {v : Value} {n sz : Nat} {w w' : World} (h : Fr Nob w w') : Kept v n sz w w' := fun b _ hb _ => World.cell?_of_block (a := ⟨b, _, none⟩) (h.block b hb id)
section
variable {w : World} {ops : Array Oper} {rest : List Oper} {o : Oper} {a : Act} {Q : Exit → Act → World → Prop}
end
end Go.Mv
namespace Go.Mv
open Go.RowKit
section
variable {P : Program} {w : World} {ops : Array Oper} {o : Oper} {a : Act} {K : Act → World → Prop} {Q : Exit → Act → World → Prop} {E : Prop}
end
end Go.Mv
namespace Go.Mv
open Go.RowKit
variable {P : Program}
end Go.Mv
namespace Go.Mv
open Go.RowKit
variable {P : Program}
theorem f0u {w : World} {ops : Array Oper} {rest : List Oper} {o : Oper} {a : Act} {Q : Exit → Act → World → Prop} {t e : TypeId} {k : Nat} {parts : Array (Nat × Operand)} (hgd : o.guard = none) (ho : o.op = .buildSlice t k parts)
  (hu : P.underlying t = some (.slice e)) {z : Value} {sz by_ : Nat} (hi0 : (P.info? e).map (fun i => (i.zero, i.size, i.bytes)) = some (some z, sz, by_)) (vs : List Value) (hp : (parts.toList.map fun p => (p.1, a.eval p.2)) = (vs.zipIdx 0).map fun x => (x.2, x.1))
  (hv : ∀ v ∈ vs, v.cells.size = sz) (hk : vs.length = k) (L : List Value) (hL : (vs.flatMap fun v => v.cells.toList) = L)
  (h : ∀ w', Has w' w.heap.size L e → Fr Nob w w' → w'.heap.size = w.heap.size + 1 → wpList P ops Q rest (a.put o.dst (.slice (some ⟨w.heap.size, 0, none⟩) k k)) w') (hk0 : 0 < k * sz := by decide) (hk24 : k * sz ≤ 16777216 := by decide) : wpList P ops Q (o :: rest) a w := by
 obtain ⟨i, hi, hz0⟩ : ∃ i, P.info? e = some i ∧ (i.zero, i.size, i.bytes) = (some z, sz, by_) := by simpa using hi0
 simp only [Prod.mk.injEq] at hz0
 obtain ⟨hz1, hsz, hby⟩ := hz0
 have hs0 : 0 < sz := Nat.pos_of_mul_pos_left hk0
 have hf : Instr.fill (fun j => some (j * i.size, i.size)) ((Array.range (k * i.size)).map (z.cells[· % z.cells.size]!)) (parts.map fun (i, x) => (i, a.eval x)).toList = some L.toArray := by
  rw [show (parts.map fun (i, x) => (i, a.eval x)).toList = (parts.toList.map fun p => (p.1, a.eval p.2)) by simp, hp, hsz, ← hL]
  exact Great.fill_whole hs0 vs _ hv (by simp [hk])
 exact wpList_buildSlice hgd t e k _ ho _ i _ hu hi hz1 (by rw [hsz]; omega) (by rw [hsz]; omega) hf (h _ (Has.new w L.toArray e) ((Fr.refl _ w).alloc _) ap17)
end Go.Mv
namespace Go.Mv
open Go.RowKit
variable {P : Program}
end Go.Mv
namespace Go.Mv
open Go.RowKit Mvp
def BPart (w : World) (v : Value) (l : List UInt8) : Prop := ∃ a n c, v = .slice a n c ∧ n ≤ c ∧ RdB w a n l
def BParts (w : World) (vs : List Value) (ls : List (List UInt8)) : Prop := vs.length = ls.length ∧ ∀ i v, vs[i]? = some v → BPart w v (ls.getD i [])
theorem BPart.still {w w' : World} {v : Value} {l : List UInt8} (h : BPart w v l) (hf : Fr Nob w w') : BPart w' v l := by
 obtain ⟨a, n, c, e, hc, hr⟩ := h
 exact ⟨a, n, c, e, hc, hr.still hf⟩
theorem BPart.one {w : World} {v : Value} {l : List UInt8} (h : BPart w v l) : v.cells = #[v] := by
 obtain ⟨a, n, c, rfl, -, -⟩ := h
 rfl
theorem BParts.still {w w' : World} {vs : List Value} {ls : List (List UInt8)} (h : BParts w vs ls) (hf : Fr Nob w w') : BParts w' vs ls := ⟨h.1, fun i v hv => (h.2 i v hv).still hf⟩
theorem BParts.one {w : World} {v : Value} {l : List UInt8} (h : BPart w v l) : BParts w [v] [l] := ⟨rfl, fun i u hu => by
 cases i with
 | zero => simp at hu; subst hu; exact h
 | succ i => simp at hu⟩
theorem BParts.two {w : World} {v u : Value} {l k : List UInt8} (h : BPart w v l) (h2 : BPart w u k) : BParts w [v, u] [l, k] := ⟨rfl, fun i x hx => by
 match i with
 | 0 => simp at hx; subst hx; exact h
 | 1 => simp at hx; subst hx; exact h2
 | i + 2 => simp at hx⟩
end Go.Mv
namespace Mvp
def a0S (m : Md) (l : List UInt8) : Bool := decide (l.length = 32) && decide (beN l < m.M)
def a0V (m : Md) (ls : List (List UInt8)) : Bool := ls.all (a0S m)
def b0e (m : Md) (ls : List (List UInt8)) : List Go.Value := ls.flatMap fun l => Go.Mv.cw 4 (elN m (beN l))
theorem m0U (m : Md) (ls : List (List UInt8)) (l : List UInt8) : b0e m (ls ++ [l]) = b0e m ls ++ Go.Mv.cw 4 (elN m (beN l)) := by
 simp [b0e]
theorem f0v (m : Md) (ls : List (List UInt8)) (k : Nat) (h : k < ls.length) : a0V m (ls.take (k + 1)) = (a0V m (ls.take k) && a0S m (ls.getD k [])) := by
 rw [List.take_succ_eq_append_getElem h, a0V, List.all_append, ← a0V]
 simp [List.getD_eq_getElem?_getD, h]
theorem g0w (m : Md) (ls : List (List UInt8)) (k : Nat) (h : k < ls.length) (hb : a0S m (ls.getD k []) = false) : a0V m ls = false := by
 rw [a0V, List.all_eq_false]
 refine ⟨ls.getD k [], ?_, by simpa using hb⟩
 rw [List.getD_eq_getElem?_getD, List.getElem?_eq_getElem h]
 exact List.getElem_mem h
end Mvp
namespace Go.Proofs.YtemcankmggmgoaaGreat
section
open Go.RowKit Go.Mv Mvp
def ReadPost (m : Md) (ls : List (List UInt8)) (w : World) (e : Ending) (w' : World) : Prop :=
 (a0V m ls = true → ∃ v, e = .returned (.tuple #[v, .bool true]) ∧ Own w' w.heap.size 66 4 v ls.length (b0e m ls)) ∧
 (a0V m ls = false → e = .returned (.tuple #[.slice none 0 0, .bool false])) ∧ Fr Nob w w'
theorem ReadPost.bad {m : Md} {ls : List (List UInt8)} {w w' : World} {e : Ending} (h : a0V m ls = false) (he : e = .returned (.tuple #[.slice none 0 0, .bool false])) (hf : Fr Nob w w') : ReadPost m ls w e w' :=
 ⟨fun h1 => (by rw [h] at h1; cases h1), fun _ => he, hf⟩
theorem ReadPost.good {m : Md} {ls : List (List UInt8)} {w w' : World} {e : Ending} {v : Value} (h : a0V m ls = true) (he : e = .returned (.tuple #[v, .bool true])) (ho : Own w' w.heap.size 66 4 v ls.length (b0e m ls)) (hf : Fr Nob w w') : ReadPost m ls w e w' :=
 ⟨fun _ => ⟨v, he, ho⟩, fun h1 => (by rw [h] at h1; cases h1), hf⟩
attribute [local irreducible] a0C lw mix cw b0k b0y b0j a0M a0n beN b0F a0P b0C a0J a0R elN mdL b0e a0V a0S
end
section
open Go.RowKit Go.Mv Mvp
attribute [local irreducible] a0C lw mix cw b0k b0y b0j a0M a0n beN b0F a0P b0C a0J a0R elN mdL a0S
theorem b0A {P : Program} {o : Oper} {a : Act} {t : TypeId} {parts : Array (Nat × Operand)} (ho : o.op = .build t parts) (cells : Array Value)
  (hb : P.built t (parts.toList.map fun p => (p.1, a.eval p.2)) = some cells) (w : World) : (execOp a.eval o).run P w = .ok (.value (.agg cells)) w := by
 have hr := run_build (P := P) w t (parts.map fun (i, x) => (i, a.eval x)) cells (by
  have : (parts.map fun (i, x) => (i, a.eval x)).toList = (parts.toList.map fun p => (p.1, a.eval p.2)) := by simp
  rw [this]; exact hb)
 unfold execOp
 simp only [ho, Sem.run_bind, Sem.run_pure, Result.andThen_ok, hr]
theorem a0U {P : Program} {fn : Func} {p : Tmp} {ty : TypeId} {s : Tmp} (h : fn.results = #[.cell p ty, .tmp s]) {tmps : Array Value} {w : World} {g : Nat} {L : List Value} {T : TypeId}
  (hp : tmps.getD p undef = .pointer (some ⟨g, 0, none⟩)) (hg : Has w g L T) {d : TypeDesc} (hu : P.underlying ty = some d) (hd : (match d with | .struct _ | .array _ _ => true | _ => false) = true) (hi : (P.info? ty).map (·.size) = some L.length) {v : Value} (hv : tmps.getD s undef = v) :
  (results fn tmps).run P w = .ok (.tuple #[.agg L.toArray, v]) w := by
 obtain ⟨lo, hi', hh, -⟩ := hg
 have hp' : tmps[p]?.getD undef = .pointer (some ⟨g, 0, none⟩) := by simpa using hp
 have hv' : tmps[s]?.getD undef = v := by simpa using hv
 simp [results, h, hp', hv', asAddr, run_loadVar_row w g T ty L.toArray _ _ hh hu (by cases d <;> first | rfl | (simp at hd)) (by simpa using hi)]
theorem t0v : (Tryz.prog.info? 68).map (fun i => (i.zero, i.size, i.bytes)) = some (some (.agg #[.int .u64 0, .int .u64 0, .int .u64 0, .int .u64 0]), 4, 32) := by kernel_rfl
theorem h0c (a : Nat) : Tryz.prog.built 68 [(0, i4 a)] = some (cw 4 a).toArray := by kernel_rfl
theorem d0d (m : Md) (hk : KindOf 1 m) (w : World) : Calls Tryz.prog 119 #[] w fun e w' => ∃ gp, e = .returned (.pointer (some ⟨gp, 0, none⟩)) ∧ w.heap.size ≤ gp ∧ Has w' gp (mdL m) 187 ∧ Fr Nob w w' := by
 have HK := qH hk
 clear hk
 go_enter Tryz.func119, Tryz.ntmps119
 go_wp2_with fail
 refine (OfK HK.out _).mono ?_
 rintro e w1 ⟨gp, rfl, hle, hm, hf⟩
 have HL := qH hle
 have HM := qH hm
 have HF := qH hf
 clear hm hf hle
 go_wp2_with fail
 go_ret
 exact ⟨gp, rfl, HL.out, HM.out, HF.out⟩
theorem w0J (m : Md) (hk : KindOf 1 m) (x y : Nat) (w : World) :
  Calls Tryz.prog 92 #[i4 (elN m x), i4 (elN m y)] w fun e w' => e = .returned (i4 (elN m (x * y))) ∧ Fr Nob w w' := by
 have HK := qH hk
 have HOK := qH hk.ok
 clear hk
 have st0 := St.start Nob w
 go_enter Tryz.func92, Tryz.ntmps92
 go_wp2_with (with_reducible refine wSk 2 ?_)
 refine a0l st0 rfl rfl rfl (cw 4 (elN m x)) rfl ?_
 intro g2 w1 st1
 clear st0
 go_wp2_with (with_reducible refine wSk 3 ?_)
 refine a0l st1 rfl rfl rfl (cw 4 (elN m y)) rfl ?_
 intro g3 w2 st2
 clear st1
 go_wp2_with (with_reducible refine wSk 4 ?_)
 refine a0a st2 rfl rfl (z := zAd) ap14 (cw 4 0) ap12 ?_
 intro g4 w3 st3
 clear st2
 go_wp2_with fail
 refine wp_region_noPanic ?_
 refine a0o (fun wx => St Nob w wx [(g2, cw 4 (elN m x), 68), (g3, cw 4 (elN m y), 68), (g4, cw 4 0, 68)]) 7 (.w 1 (.t 2 (.w 3 (.t 4 (.r 0 (.r 5 (.w 6 (.m 7 .nil)))))))) ap14 ap14 st3.drew (fun _ _ _ _ _ h => h) ?_
 have hd3 := st3.drew
 clear st3
 refine a0j rfl rfl apW ?_
 try simp only [clL]
 refine a0s rfl rfl rfl rfl (cw 4 (elN m x)) (fun wx hS => St.rangeL hS 0 rfl 0 _ dZl) Tryz.underlying66 rfl ap4 ?_
 try simp only [clL]
 refine a0j rfl rfl apW ?_
 try simp only [clL]
 refine a0s rfl rfl rfl rfl (cw 4 (elN m y)) (fun wx hS => St.rangeL hS 1 rfl 0 _ dZl) Tryz.underlying66 rfl ap4 ?_
 try simp only [clL]
 refine a0w rfl rfl ?_
 go_simp
 refine (d0d m HK.out _).mono ?_
 rintro e' w4 ⟨gp, rfl, hle, hm, hf4⟩
 have st4 : St Nob w w4 [(g2, cw 4 (elN m x), 68), (g3, cw 4 (elN m y), 68), (g4, cw 4 0, 68), (gp, mdL m, 187)] := hd3.new hf4 hm hle
 clear hf4 hm hle
 clear hd3
 refine ⟨St.less st4 ap17, ?_⟩
 try simp only [clL]
 refine a0w rfl rfl ?_
 go_simp
 refine (w0F m gp _ HOK.out (st4.at 3 rfl) x y).mono ?_
 rintro e' w5 ⟨rfl, hf5⟩
 have st5 := st4.keep hf5
 clear hf5
 clear st4
 refine ⟨St.less st5 ap17, ?_⟩
 try simp only [clL]
 refine a0j rfl rfl (b0A rfl _ (h0c _)) ?_
 try simp only [clL]
 refine a0q rfl rfl ?_
 refine a0h st5 2 rfl rfl rfl rfl ap5 ap4 (a0f _ _) ?_
 intro w6 st6
 clear st5
 try simp only [Act.put]
 refine a0g ?_
 refine NoPanic.normal ?_
 have hr := st6.at 2 rfl
 have hfr := st6.fr
 clear st6
 go_wp2_with fail
 exact bodyPost_ret (a0r rfl rfl hr Tryz.underlying68 rfl ap4) rfl ⟨rfl, hfr⟩
theorem A0f (m : Md) (hk : KindOf 1 m) (a : Option Addr) (n c : Nat) (l : List UInt8) (w : World) (hb : RdB w a n l) (h32 : l.length ≠ 32) :
  Calls Tryz.prog 103 #[.slice a n c] w fun e w' => e = .returned (.tuple #[i4 0, .bool false]) ∧ Fr Nob w w' := by
 have HK := qH hk
 have HOK := qH hk.ok
 clear hk
 have HB := qH hb
 have HN := qH (show l.length = n from hb.len)
 clear hb
 have hne : ((n : Int) != 32) = true := by have := HN.out; simp; omega
 clear h32
 have st0 := St.start Nob w
 go_enter Tryz.func103, Tryz.ntmps103
 go_wp2_with (with_reducible refine wSk 2 ?_)
 refine a0a st0 rfl rfl (z := zAd) ap14 (cw 4 0) ap12 ?_
 intro g2 w1 st1
 clear st0
 go_wp2_with (with_reducible refine wSk 9 ?_)
 refine a0p st1 0 rfl rfl rfl Tryz.underlying68 rfl rfl ap4 ?_
 go_wp2_with (with_reducible refine wSn ?_)
 refine a0b st1 0 rfl rfl rfl rfl rfl ap5 ap4 (a0f _ _) ?_
 intro w2 st2
 clear st1
 have hr := st2.at 0 rfl
 have hfr := st2.fr
 clear st2
 go_wp2_with fail
 exact bodyPost_ret (a0U rfl rfl hr Tryz.underlying68 rfl ap4 rfl) rfl ⟨rfl, hfr⟩
theorem C0s (m : Md) (hk : KindOf 1 m) (a : Option Addr) (n c : Nat) (l : List UInt8) (w : World) (hb : RdB w a n l) (h32 : l.length = 32) (hlt : beN l < m.M) :
  Calls Tryz.prog 103 #[.slice a n c] w fun e w' => e = .returned (.tuple #[i4 (elN m (beN l)), .bool true]) ∧ Fr Nob w w' := by
 have HK := qH hk
 have HOK := qH hk.ok
 clear hk
 have hbl := f0t l ap16
 have HBL := qH hbl
 have h32' : n = 32 := by have := hb.len; omega
 subst h32'
 have HB := qH hb
 have hne : (((32 : Nat) : Int) != 32) = false := by rfl
 clear hb hbl h32
 have HLT := qH hlt
 clear hlt
 have st0 := St.start Nob w
 go_enter Tryz.func103, Tryz.ntmps103
 go_wp2_with (with_reducible refine wSk 2 ?_)
 refine a0a st0 rfl rfl (z := zAd) ap14 (cw 4 0) ap12 ?_
 intro g2 w1 st1
 clear st0
 go_wp2_with fail
 refine (d0d m HK.out _).mono ?_
 rintro e' w2 ⟨gp, rfl, hle, hm, hf2⟩
 have st2 : St Nob w w2 [(g2, cw 4 0, 68), (gp, mdL m, 187)] := st1.new hf2 hm hle
 clear st1 hf2 hm hle
 go_wp2_with fail
 refine (c0k a 32 c l _ (HB.out.still st2.fr) ap15).mono ?_
 rintro e' w3 ⟨rfl, hf3⟩
 have st3 := st2.keep hf3
 clear st2 hf3
 go_wp2_with (with_reducible refine wSk 5 ?_)
 refine a0a st3 rfl rfl (z := zAd) ap14 (cw 4 0) ap12 ?_
 intro g5 w4 st4
 clear st3
 go_wp2_with (with_reducible refine wSn ?_)
 refine a0b st4 2 rfl rfl rfl rfl rfl ap5 ap4 (a0f _ _) ?_
 intro w5 st5
 clear st4
 go_wp2_with fail
 refine wp_region_noPanic ?_
 refine a0o (fun wx => St Nob w wx [(g2, cw 4 0, 68), (gp, mdL m, 187), (g5, cw 4 (beN l), 111)]) 6 (.t 0 (.w 1 (.w 2 (.w 3 (.t 4 (.r 5 (.m 6 .nil))))))) ap14 ap14 st5.drew (fun _ _ _ _ _ h => h) ?_
 have hd5 := st5.drew
 clear st5
 refine a0s rfl rfl rfl rfl (cw 4 (beN l)) (fun wx hS => St.rangeL hS 2 rfl 0 _ dZl) Tryz.underlying111 rfl ap4 ?_
 try simp only [clL]
 refine a0j rfl rfl apW ?_
 try simp only [clL]
 refine a0j rfl rfl apW ?_
 try simp only [clL]
 refine a0j rfl rfl apW ?_
 try simp only [clL]
 refine a0s rfl rfl rfl rfl (cw 4 m.M) (fun wx hS => St.rangeL hS 1 rfl 0 _ (l0T m)) Tryz.underlying111 rfl ap4 ?_
 try simp only [clL]
 refine a0w rfl rfl ?_
 go_simp
 refine (g0u (beN l) m.M _ HBL.out HOK.out.lt).mono ?_
 rintro e' w6 ⟨rfl, hf6⟩
 have st6 := hd5.keep hf6
 clear hf6
 clear hd5
 refine ⟨st6, ?_⟩
 try simp only [clL]
 refine a0q rfl rfl ?_
 go_simp
 try simp only [clL]
 refine a0g ?_
 refine NoPanic.normal ?_
 rw [decide_eq_true HLT.out]
 go_wp2_with (with_reducible refine wSk 22 ?_)
 refine a0k st6 2 rfl rfl rfl Tryz.underlying111 rfl ap4 ?_
 go_wp2_with fail
 refine (d0k m gp _ HOK.out (st6.at 1 rfl) (beN l) HBL.out).mono ?_
 rintro e' w7 ⟨rfl, hf7⟩
 have st7 := st6.keep hf7
 clear st6 hf7
 go_wp2_with (with_reducible refine wSk 24 ?_)
 refine a0Y rfl rfl _ (h0c _) ?_
 go_wp2_with (with_reducible refine wSn ?_)
 refine a0b st7 0 rfl rfl rfl rfl rfl ap5 ap4 (a0f _ _) ?_
 intro w8 st8
 clear st7
 have hr := st8.at 0 rfl
 have hfr := st8.fr
 clear st8
 go_wp2_with fail
 exact bodyPost_ret (a0U rfl rfl hr Tryz.underlying68 rfl ap4 rfl) rfl ⟨rfl, hfr⟩
theorem A0g (m : Md) (hk : KindOf 1 m) (a : Option Addr) (n c : Nat) (l : List UInt8) (w : World) (hb : RdB w a n l) (h32 : l.length = 32) (hlt : ¬ beN l < m.M) :
  Calls Tryz.prog 103 #[.slice a n c] w fun e w' => e = .returned (.tuple #[i4 0, .bool false]) ∧ Fr Nob w w' := by
 have HK := qH hk
 have HOK := qH hk.ok
 clear hk
 have hbl := f0t l ap16
 have HBL := qH hbl
 have h32' : n = 32 := by have := hb.len; omega
 subst h32'
 have HB := qH hb
 have hne : (((32 : Nat) : Int) != 32) = false := by rfl
 clear hb hbl h32
 have HLT := qH hlt
 clear hlt
 have st0 := St.start Nob w
 go_enter Tryz.func103, Tryz.ntmps103
 go_wp2_with (with_reducible refine wSk 2 ?_)
 refine a0a st0 rfl rfl (z := zAd) ap14 (cw 4 0) ap12 ?_
 intro g2 w1 st1
 clear st0
 go_wp2_with fail
 refine (d0d m HK.out _).mono ?_
 rintro e' w2 ⟨gp, rfl, hle, hm, hf2⟩
 have st2 : St Nob w w2 [(g2, cw 4 0, 68), (gp, mdL m, 187)] := st1.new hf2 hm hle
 clear st1 hf2 hm hle
 go_wp2_with fail
 refine (c0k a 32 c l _ (HB.out.still st2.fr) ap15).mono ?_
 rintro e' w3 ⟨rfl, hf3⟩
 have st3 := st2.keep hf3
 clear st2 hf3
 go_wp2_with (with_reducible refine wSk 5 ?_)
 refine a0a st3 rfl rfl (z := zAd) ap14 (cw 4 0) ap12 ?_
 intro g5 w4 st4
 clear st3
 go_wp2_with (with_reducible refine wSn ?_)
 refine a0b st4 2 rfl rfl rfl rfl rfl ap5 ap4 (a0f _ _) ?_
 intro w5 st5
 clear st4
 go_wp2_with fail
 refine wp_region_noPanic ?_
 refine a0o (fun wx => St Nob w wx [(g2, cw 4 0, 68), (gp, mdL m, 187), (g5, cw 4 (beN l), 111)]) 6 (.t 0 (.w 1 (.w 2 (.w 3 (.t 4 (.r 5 (.m 6 .nil))))))) ap14 ap14 st5.drew (fun _ _ _ _ _ h => h) ?_
 have hd5 := st5.drew
 clear st5
 refine a0s rfl rfl rfl rfl (cw 4 (beN l)) (fun wx hS => St.rangeL hS 2 rfl 0 _ dZl) Tryz.underlying111 rfl ap4 ?_
 try simp only [clL]
 refine a0j rfl rfl apW ?_
 try simp only [clL]
 refine a0j rfl rfl apW ?_
 try simp only [clL]
 refine a0j rfl rfl apW ?_
 try simp only [clL]
 refine a0s rfl rfl rfl rfl (cw 4 m.M) (fun wx hS => St.rangeL hS 1 rfl 0 _ (l0T m)) Tryz.underlying111 rfl ap4 ?_
 try simp only [clL]
 refine a0w rfl rfl ?_
 go_simp
 refine (g0u (beN l) m.M _ HBL.out HOK.out.lt).mono ?_
 rintro e' w6 ⟨rfl, hf6⟩
 have st6 := hd5.keep hf6
 clear hf6
 clear hd5
 refine ⟨st6, ?_⟩
 try simp only [clL]
 refine a0q rfl rfl ?_
 go_simp
 try simp only [clL]
 refine a0g ?_
 refine NoPanic.normal ?_
 rw [decide_eq_false HLT.out]
 go_wp2_with (with_reducible refine wSk 20 ?_)
 refine a0p st6 0 rfl rfl rfl Tryz.underlying68 rfl rfl ap4 ?_
 go_wp2_with (with_reducible refine wSn ?_)
 refine a0b st6 0 rfl rfl rfl rfl rfl ap5 ap4 (a0f _ _) ?_
 intro w7 st7
 clear st6
 have hr := st7.at 0 rfl
 have hfr := st7.fr
 clear st7
 go_wp2_with fail
 exact bodyPost_ret (a0U rfl rfl hr Tryz.underlying68 rfl ap4 rfl) rfl ⟨rfl, hfr⟩
theorem m0V (m : Md) (hk : KindOf 1 m) (a : Option Addr) (n c : Nat) (l : List UInt8) (w : World) (hb : RdB w a n l) (h : a0S m l = true) :
  Calls Tryz.prog 103 #[.slice a n c] w fun e w' => e = .returned (.tuple #[i4 (elN m (beN l)), .bool true]) ∧ Fr Nob w w' := by
 unfold a0S at h
 simp only [Bool.and_eq_true, decide_eq_true_eq] at h
 exact C0s m hk a n c l w hb h.1 h.2
theorem t0w (m : Md) (hk : KindOf 1 m) (a : Option Addr) (n c : Nat) (l : List UInt8) (w : World) (hb : RdB w a n l) (h : a0S m l = false) :
  Calls Tryz.prog 103 #[.slice a n c] w fun e w' => e = .returned (.tuple #[i4 0, .bool false]) ∧ Fr Nob w w' := by
 unfold a0S at h
 simp only [Bool.and_eq_false_iff, decide_eq_false_iff_not] at h
 by_cases h32 : l.length = 32
 ·exact A0g m hk a n c l w hb h32 (by rcases h with h | h; exact absurd h32 h; exact h)
 ·exact A0f m hk a n c l w hb h32
theorem t0x (m : Md) (hk : KindOf 1 m) (a : Option Addr) (n c : Nat) (l : List UInt8) (w : World) (hb : RdB w a n l) (hc : n ≤ c) (hn : n ≤ 1000000) :
  Calls Tryz.prog 116 #[.slice a n c] w fun e w' => e = .returned (i4 (elN m (beN l))) ∧ Fr Nob w w' := by
 have HK := qH hk
 have HOK := qH hk.ok
 clear hk
 have HB := qH hb
 have HN := qH (show l.length = n from hb.len)
 clear hb
 have HC := qH hc
 have HNN := qH hn
 have HLM := qH (Nat.lt_trans (Nat.mod_lt (beN l) (by have := HOK.out.one; omega)) HOK.out.lt)
 clear hc hn
 have st0 := St.start Nob w
 go_enter Tryz.func116, Tryz.ntmps116
 go_wp2_with (with_reducible refine wSk 2 ?_)
 refine a0a st0 rfl rfl (z := zAd) ap14 (cw 4 0) ap12 ?_
 intro g2 w1 st1
 clear st0
 go_wp2_with fail
 refine (d0d m HK.out _).mono ?_
 rintro e' w2 ⟨gp, rfl, hle, hm, hf2⟩
 have st2 : St Nob w w2 [(g2, cw 4 0, 68), (gp, mdL m, 187)] := st1.new hf2 hm hle
 clear st1 hf2 hm hle
 go_wp2_with fail
 refine (o0w m gp _ HOK.out (st2.at 1 rfl) a n c l (HB.out.still st2.fr) HC.out HNN.out).mono ?_
 rintro e' w3 ⟨rfl, hf3⟩
 have st3 := st2.keep hf3
 clear st2 hf3
 go_wp2_with fail
 refine (d0k m gp _ HOK.out (st3.at 1 rfl) (beN l % m.M) HLM.out).mono ?_
 rintro e' w4 ⟨rfl, hf4⟩
 have st4 := st3.keep hf4
 clear st3 hf4
 go_wp2_with (with_reducible refine wSk 10 ?_)
 refine a0Y rfl rfl _ (h0c _) ?_
 go_wp2_with (with_reducible refine wSn ?_)
 refine a0b st4 0 rfl rfl rfl rfl rfl ap5 ap4 (a0f _ _) ?_
 intro w5 st5
 clear st4
 have hr := st5.at 0 rfl
 have hfr := st5.fr
 clear st5
 go_wp2_with fail
 exact bodyPost_ret (a0r rfl rfl hr Tryz.underlying68 rfl ap4) rfl ⟨by rw [m0Q]; rfl, hfr⟩
end
section
open Go.RowKit Go.Mv Mvp
attribute [local irreducible] a0C lw mix cw b0k b0y b0j a0M a0n beN b0F a0P b0C a0J a0R elN mdL b0e a0V a0S
end
end Go.Proofs.YtemcankmggmgoaaGreat
namespace Go.Mv
open Go.RowKit
theorem A0h {w : World} {b o n : Nat} {vs : List Value} (h : Rd w (some ⟨b, o, none⟩) n vs) (k : Nat) (cs : List Value) (hcs : (vs.drop k).take cs.length = cs) : At w b (o + k) cs := by
 intro i v hv
 rcases h.2 with h0 | ⟨b', o', he, hc⟩
 ·have hl := h.len
  rw [h0] at hl
  rw [List.length_eq_zero_iff.1 hl] at hcs
  simp at hcs
  subst hcs
  simp at hv
 ·simp only [Option.some.injEq, Addr.mk.injEq] at he
  obtain ⟨rfl, rfl, -⟩ := he
  have := hc.sub k cs.length
  rw [hcs] at this
  exact this i v hv
theorem g0x {w : World} {b o n : Nat} {vs : List Value} (h : Rd w (some ⟨b, o, none⟩) n vs) (k : Nat) (cs : List Value) (hcs : (vs.drop k).take cs.length = cs) : w.rangeAt b (o + k) cs :=
 fun i v hv => A0h h k cs hcs i v hv
end Go.Mv
namespace Go.Proofs.YtemcankmggmgoaaGreat
open Go.RowKit Go.Mv Mvp
attribute [local irreducible] a0C lw mix cw b0k b0y b0j a0M a0n beN b0F a0P b0C a0J a0R elN mdL b0e a0V a0S
end Go.Proofs.YtemcankmggmgoaaGreat
namespace Mvp
theorem t0y (N i : Nat) : lw (N / 2) i = lw N i / 2 ||| (lw N (i + 1) * 9223372036854775808 % 18446744073709551616) := by
 have h1 : lw N (i + 1) * 9223372036854775808 % 18446744073709551616 = 2 ^ 63 * (lw N (i + 1) % 2) := by
  have : (18446744073709551616 : Nat) = 9223372036854775808 * 2 := by decide
  rw [this, Nat.mul_comm, Nat.mul_mod_mul_left]
 have h2 : lw N i / 2 < 2 ^ 63 := by have := c0Q N i; omega
 rw [h1, Nat.or_comm, ← Nat.two_pow_add_eq_or_of_lt h2]
 have e1 : lw N (i + 1) = N / B64 ^ i / 18446744073709551616 % 18446744073709551616 := by
  unfold lw
  rw [Nat.pow_succ, ← Nat.div_div_eq_div_mul]
 have e2 : lw (N / 2) i = N / B64 ^ i / 2 % 18446744073709551616 := by
  unfold lw
  rw [Nat.div_div_eq_div_mul, Nat.mul_comm, ← Nat.div_div_eq_div_mul]
 have e3 : lw N i = N / B64 ^ i % 18446744073709551616 := rfl
 rw [e1, e2, e3]
 generalize N / B64 ^ i = x
 omega
theorem l0i (n q k b : Nat) (hq : q < 2 ^ k) (hb : b < 2) (hk : k / 64 < n) : (a0C n q).set (k / 64) (lw q (k / 64) ||| b * 2 ^ (k % 64)) = a0C n (q + b * 2 ^ k) := by
 have e0 : 2 ^ k = B64 ^ (k / 64) * 2 ^ (k % 64) := by
  rw [show B64 = 2 ^ 64 from rfl, ← Nat.pow_mul, ← Nat.pow_add]
  congr 1; omega
 have hj : q / B64 ^ (k / 64) < 2 ^ (k % 64) := Nat.div_lt_of_lt_mul (by rw [← e0]; exact hq)
 have hr : 2 ^ (k % 64) * 2 ≤ B64 := by
  rw [← Nat.pow_succ, show B64 = 2 ^ 64 from rfl]
  exact Nat.pow_le_pow_right ap15 ap16
 have hy : b * 2 ^ (k % 64) ≤ 2 ^ (k % 64) := by
  have := Nat.mul_le_mul_right (2 ^ (k % 64)) (show b ≤ 1 by omega)
  rwa [Nat.one_mul] at this
 rw [e0, Nat.mul_left_comm b]
 apply List.ext_getElem?
 intro i
 rw [List.getElem?_set, b0D]
 rcases Nat.lt_or_ge i n with hi | hi
 ·rw [c0K _ _ _ hi, c0K _ _ _ hi]
  rcases Nat.lt_trichotomy i (k / 64) with h | h | h
  ·rw [if_neg ap16, i0F _ _ _ _ h]
  ·subst h
   rw [if_pos rfl, if_pos hi]
   congr 1
   have h2 := c0U q (b * 2 ^ (k % 64)) (k / 64) 0
   rw [Nat.add_zero] at h2
   rw [h2]
   rw [Nat.mul_comm b] at hy h2 ⊢
   have h3 : lw q (k / 64) = q / B64 ^ (k / 64) := Nat.mod_eq_of_lt (by generalize q / B64 ^ (k / 64) = y at *; generalize 2 ^ (k % 64) = z at *; omega)
   rw [h3, Nat.or_comm, ← Nat.two_pow_add_eq_or_of_lt hj]
   simp only [lw, Nat.pow_zero, Nat.div_one]
   generalize q / B64 ^ (k / 64) = y at *
   generalize 2 ^ (k % 64) * b = u at *
   generalize 2 ^ (k % 64) = z at *
   rw [Nat.add_comm]
   exact (Nat.mod_eq_of_lt ap16).symm
  ·rw [if_neg ap16]
   congr 1
   obtain ⟨j, rfl⟩ : ∃ j, i = k / 64 + (1 + j) := ⟨i - k / 64 - 1, by omega⟩
   rw [c0U, ← c0B q]
   rw [d0E (q / B64 ^ (k / 64)) 1 _ (by rw [Nat.pow_one]; omega) ap16, d0E _ 1 _ (by rw [Nat.pow_one]; omega) ap16]
 ·rw [if_neg ap16, List.getElem?_eq_none (by rw [b0D]; exact hi), List.getElem?_eq_none (by rw [b0D]; exact hi)]
theorem f0f (P k : Nat) : P / 4 % 2 ^ (k + 1) = P / 4 % 2 ^ k + (P / 2 ^ (k + 2) % 2) * 2 ^ k := by
 have e : P / 2 ^ (k + 2) = P / 4 / 2 ^ k := by
  rw [Nat.div_div_eq_div_mul, Nat.pow_add, Nat.mul_comm]
 rw [e, Nat.pow_succ, Nat.mod_mul, Nat.mul_comm (2 ^ k)]
end Mvp
namespace Go.Mv
open Go.RowKit Mvp
variable {P : Program}
theorem l0j {t e : TypeId} (hu : P.underlying t = some (.array 4 e)) (he : P.underlying e = some (.int .u64)) (hi0 : (P.info? e).map (·.size) = some 1) (a b : Nat) (w : World) :
  (Op.equal t (.agg (cw 4 a).toArray) (.agg (cw 4 b).toArray)).run P w = .ok (decide (a % B64 ^ 4 = b % B64 ^ 4)) w := by
 obtain ⟨j, hj, hsz⟩ : ∃ j, P.info? e = some j ∧ j.size = 1 := by simpa using hi0
 have hc : P.cellsOf e = 1 := by simp [Program.cellsOf, hj, hsz]
 have hp : ∀ (x k : Nat), k < 4 → (part e (cw 4 x).toArray k).run P w = .ok (.int .u64 (lw x k : Nat)) w := by
  intro x k hk
  have hv := a0G 4 x k hk
  simp [part, isAgg, run_underlying he, sizeOf, typeInfo, hj, hsz, hv]
 have hq0 : ∀ (d : Nat) (x y : Int), (Op.equalIn (d + 1) e (.int .u64 x) (.int .u64 y)).run P w = .ok (x == y) w := fun d x y => by
  simp [Op.equalIn, run_underlying he]
 have hq : ∀ x y : Int, (Op.equalIn 9999 e (.int .u64 x) (.int .u64 y)).run P w = .ok (x == y) w := hq0 9998
 have hbe : ∀ k, ((lw a k : Int) == (lw b k : Int)) = decide (lw a k = lw b k) := by
  intro k
  rw [Bool.eq_iff_iff]; simp; omega
 show (Op.equalIn (9999 + 1) t _ _).run P w = _
 rw [run_equalIn_array w 9999 _ _ hu hj, hc]
 have hfin : decide (a % B64 ^ 4 = b % B64 ^ 4) = (decide (lw a 0 = lw b 0) && (decide (lw a 1 = lw b 1) && (decide (lw a 2 = lw b 2) && decide (lw a 3 = lw b 3)))) := by
  rw [Bool.eq_iff_iff]
  simp only [decide_eq_true_eq, Bool.and_eq_true]
  constructor
  ·intro h
   refine ⟨?_, ?_, ?_, ?_⟩ <;> (rw [← e0l a _ 4 ap15, h, e0l b _ 4 ap15])
  ·rintro ⟨h0, h1, h2, h3⟩
   refine d0t (e0m fun i hi => ?_)
   have : i = 0 ∨ i = 1 ∨ i = 2 ∨ i = 3 := by omega
   rcases this with rfl | rfl | rfl | rfl <;> assumption
 rw [hfin]
 show (Op.eqItems 9999 e 1 _ _ [0, 1, 2, 3]).run P w = _
 have p0 := fun x => hp x 0 ap15
 have p1 := fun x => hp x 1 ap15
 have p2 := fun x => hp x 2 ap15
 have p3 := fun x => hp x 3 ap15
 clear hp hq0 hfin
 by_cases h0 : lw a 0 = lw b 0 <;> by_cases h1 : lw a 1 = lw b 1 <;> by_cases h2 : lw a 2 = lw b 2 <;> by_cases h3 : lw a 3 = lw b 3 <;> simp [Op.eqItems, p0, p1, p2, p3, hq, hbe, h0, h1, h2, h3, -beq_iff_eq]
end Go.Mv
namespace Go.Proofs.YtemcankmggmgoaaGreat
open Go.RowKit Go.Mv Mvp
attribute [local irreducible] a0C lw mix cw b0k b0y b0j a0M a0n beN b0F a0P b0C a0J a0R elN
theorem i0P (N : Nat) (w : World) (hN : N < B64 ^ 4) :
  Calls Tryz.prog 206 #[i4 N, .int .i64 2] w fun e w' => e = .returned (i4 (N / 4)) ∧ Fr Nob w w' := by
 have HN := qH hN; clear hN
 have st0 := St.start Nob w
 go_enter Tryz.func206, Tryz.ntmps206
 go_wp2_with (with_reducible refine wSk 2 ?_)
 refine a0l st0 rfl rfl rfl (cw 4 N) rfl ?_
 intro g2 w1 st1
 clear st0
 go_wp2_with (with_reducible refine wSk 4 ?_)
 refine a0a st1 rfl rfl (z := zAd) ap14 (cw 4 0) ap12 ?_
 intro g4 w2 st2
 clear st1
 go_wp2
 go_loopw [7] (fun i wr => ∃ j : Nat, j ≤ 2 ∧ i = .int .i64 (j : Int) ∧ St Nob w wr [(g2, cw 4 (N / 2 ^ j), 111), (g4, cw 4 0, 111)]) (fun i _ => 2 - (intOf i).toNat)
 case atStart => exact ⟨0, by omega, rfl, by rw [Nat.pow_zero, Nat.div_one]; exact st2⟩
 case round =>
  obtain ⟨j, hj, rfl, st⟩ := hrel
  clear st2
  by_cases hlt : j < 2
  ·have hltJ : (j : Int) < 2 := by omega
   have hV : N / 2 ^ j < B64 ^ 4 := Nat.lt_of_le_of_lt (Nat.div_le_self _ _) HN.out
   have hnext : N / 2 ^ (j + 1) = N / 2 ^ j / 2 := by rw [Nat.pow_succ, Nat.div_div_eq_div_mul]
   generalize hVe : N / 2 ^ j = V at *
   have HNEXT := qH hnext; have HV := qH hV; clear hnext hV hVe
   go_wp2
   go_loopw [9] (fun i wr => ∃ k : Nat, k ≤ 4 ∧ i = .int .i64 (k : Int) ∧ St Nob w wr [(g2, cw 4 (mix (V / 2) V k), 111), (g4, cw 4 0, 111)]) (fun i _ => 4 - (intOf i).toNat)
   case atStart => exact ⟨0, by omega, rfl, by rw [d0U]; exact st⟩
   case round =>
    obtain ⟨k, hk, rfl, stk⟩ := hrel
    clear st
    by_cases hltk : k < 4
    ·have hltK : (k : Int) < 4 := by omega
     have c1 : wr.cell? ⟨g2, k, none⟩ = some (.int .u64 (lw V k : Nat)) := by have h := (stk.at 0 rfl).cell (a0G 4 (mix (V / 2) V k) k hltk); rwa [h0u, if_neg (Nat.lt_irrefl k)] at h
     have f1 := (stk.at 0 rfl).free k (by rw [a0i]; exact hltk)
     have stm := stk.set 0 rfl k (.int .u64 ((lw V k : Int) / 2))
     have hhw := t0y V k
     have hor : bits .or .u64 ((lw V k : Int) / 2) (IntKind.u64.wrap ((lw V (k + 1) : Int) * 9223372036854775808)) = ((lw (V / 2) k : Nat) : Int) := by
      have h := bits_or_u64_nat (lw V k / 2) (lw V (k + 1) * 9223372036854775808 % 18446744073709551616) (Nat.lt_of_le_of_lt (Nat.div_le_self _ _) (c0Q _ _)) (Nat.mod_lt _ ap15)
      rw [hhw, ← h, IntKind.wrap_u64]
      rfl
     have HOR := qH hor
     clear hor
     have STM := qH stm
     have HSET := qH (d0V 4 (V / 2) V k hltk)
     by_cases h3 : k < 3
     ·have h3I : (k : Int) < 3 := by omega
      have c2 := (stm.at 0 rfl).cell (i := k) (v := .int .u64 ((lw V k : Int) / 2)) (by rw [List.getElem?_set_self (by rw [a0i]; exact hltk)])
      have c3 := (stm.at 0 rfl).cell (i := k + 1) (v := .int .u64 (lw V (k + 1) : Nat)) (by rw [List.getElem?_set_ne ap16, a0G 4 _ (k + 1) ap16, h0u, if_neg ap16])
      have f2 := (stm.at 0 rfl).free k (by rw [List.length_set, a0i]; exact hltk)
      have e1 : IntKind.i64.wrap ((k : Int) + 1) = (k : Int) + 1 := IntWalk.i64_in _ ap16
      have e4 : ((k : Int) + 1).toNat = k + 1 := by omega
      have hlo : (0 : Int) ≤ (k : Int) + 1 ∧ (k : Int) + 1 < 4 := by omega
      clear stm stk
      go_wp2_with fail
      generalize hwm : wr.setCell ⟨g2, k, none⟩ (.int .u64 ((lw V k : Int) / 2)) = wm at *
      clear hwm c1 f1
      refine wp_region_still_tail 10 ap14 ap14 ?_
      simp only [List.take_succ_cons, List.take_zero, List.drop_succ_cons, List.drop_zero]
      repeat still_step
      refine wpStill_nil ?_
      have hst := (STM.out.set 0 rfl k (.int .u64 (bits .or .u64 ((lw V k : Int) / 2) (IntKind.u64.wrap ((lw V (k + 1) : Int) * 9223372036854775808))))).drew
      rw [HOR.out] at hst
      simp only [List.set_cons_zero, List.set_set] at hst
      rw [HSET.out] at hst
      have HST := qH hst
      clear hst
      go_wp2
      go_roundw
      case rel => exact ⟨k + 1, by omega, by go_num, by rw [HOR.out]; exact HST.out⟩
      case measure => simp [intOf]; omega
     ·have h3I : ¬ ((k : Int) < 3) := by omega
      have hk3 : k = 3 := by omega
      have hz : lw V (k + 1) = 0 := d0E V 4 _ HV.out ap16
      have hst := STM.out
      rw [hz, Nat.zero_mul, Nat.zero_mod, Nat.or_zero] at hhw
      rw [show ((lw V k : Int) / 2) = ((lw (V / 2) k : Nat) : Int) by rw [hhw]; rfl] at hst
      simp only [List.set_cons_zero] at hst
      rw [HSET.out] at hst
      rw [show ((lw (V / 2) k : Nat) : Int) = ((lw V k : Int) / 2) by rw [hhw]; rfl] at hst
      have HST := qH hst
      clear hst stm hhw hz hk3 stk
      go_wp2
      go_roundw
      case rel => exact ⟨k + 1, by omega, by go_num, HST.out⟩
      case measure => simp [intOf]; omega
    ·have hge : ¬ ((k : Int) < 4) := by omega
     have hk4 : k = 4 := by omega
     rw [hk4, h0N, ← HNEXT.out] at stk
     clear hk4
     go_wp2
     go_roundw
     case rel => exact ⟨j + 1, by omega, by go_num, stk⟩
     case measure => simp [intOf]; omega
  ·have hge : ¬ ((j : Int) < 2) := by omega
   have hj2 : j = 2 := by omega
   rw [hj2] at st
   clear hj2
   go_wp2_with (with_reducible refine wSk 31 ?_)
   refine a0k st 0 rfl rfl rfl Tryz.underlying111 rfl ap10 ?_
   go_wp2_with (with_reducible refine wSn ?_)
   refine a0b st 1 rfl rfl rfl rfl rfl (by rw [a0i, a0i]) ap10 (a0f _ _) ?_
   intro w9 st9
   clear st
   have hr := st9.at 1 rfl
   have hfr := st9.fr
   clear st9
   go_wp2
   exact bodyPost_ret (a0v rfl rfl hr Tryz.underlying111 ap10) rfl ⟨rfl, hfr⟩
end Go.Proofs.YtemcankmggmgoaaGreat
namespace Mvp
def rtN (M x : Nat) : Nat := x ^ (M / 4 + 1)
def b0G (M x : Nat) : Bool := rtN M x * rtN M x % M == x % M
def rtV (M x : Nat) : Nat := if rtN M x % M % 2 = 1 then M - rtN M x % M else rtN M x
end Mvp
namespace Go.Proofs.YtemcankmggmgoaaGreat
open Go.RowKit Go.Mv Mvp
theorem C0t (m : Md) (h : m.Ok) (x y : Nat) (ty : TypeId) (hu : Tryz.prog.underlying ty = some (.array 4 58)) (w : World) :
  (Op.equal ty (i4 (elN m x)) (.agg (cw 4 (elN m y)).toArray)).run Tryz.prog w = .ok (x % m.M == y % m.M) w := by
 have hb : decide (elN m x % B64 ^ 4 = elN m y % B64 ^ 4) = (x % m.M == y % m.M) := by
  rw [Nat.mod_eq_of_lt (i0N m h x), Nat.mod_eq_of_lt (i0N m h y), Bool.eq_iff_iff]
  simp only [decide_eq_true_eq, beq_iff_eq]
  exact ⟨y0K m h, h0R m⟩
 rw [← hb]
 exact l0j hu Tryz.underlying58 c0L _ _ w
theorem p0X (x y : Nat) (ty : TypeId) (hg : Tryz.prog.eqGuardType Tryz.prog.depth ty = false) (a b : Operand) (w : World) :
  (eqGuard .neq ty a b (i4 x) (.agg (cw 4 y).toArray)).run Tryz.prog w = .ok () w := run_eqGuard_agg w .neq ty a b _ _ hg
theorem C0u (m : Md) (h : m.Ok) (x y : Nat) (ty : TypeId) (hu : Tryz.prog.underlying ty = some (.array 4 58)) (w : World) :
  (binOp .neq ty (i4 (elN m x)) (.agg (cw 4 (elN m y)).toArray)).run Tryz.prog w = .ok (.bool !(x % m.M == y % m.M)) w := by
 show (do pure (Value.bool (!(← Op.equal ty (i4 (elN m x)) (.agg (cw 4 (elN m y)).toArray))))).run Tryz.prog w = _
 simp only [Sem.run_bind, C0t m h x y ty hu, Result.andThen_ok]
 rfl
theorem l0k (m : Md) (h : m.Ok) (x y : Nat) (ty : TypeId) (hu : Tryz.prog.underlying ty = some (.array 4 58)) (hg : Tryz.prog.eqGuardType Tryz.prog.depth ty = false) {o : Oper} {a : Act} {w : World} {K : Act → World → Prop} {Q : Exit → Act → World → Prop} {p q : Operand} {T : TypeId}
  (ho : o.op = .binOp .neq ty p q T) (hp : a.eval p = i4 (elN m x)) (hq : a.eval q = .agg (cw 4 (elN m y)).toArray) {b : Bool} (hb : (x % m.M == y % m.M) = b) (hk : K (a.put o.dst (.bool !b)) w) : o.wp Tryz.prog a w K Q := by
 have h1 := p0X (elN m x) (elN m y) ty hg p q w
 have h2 := C0u m h x y ty hu w
 rw [hb] at h2
 unfold Oper.wp execOp
 simp only [ho, hp, hq, Sem.run_bind, h1, h2, Result.andThen_ok, Sem.run_pure]
 exact hk
theorem p0Y (v : Nat) (w : World) : (Instr.index 111 (i4 v) (.int .i64 0)).run Tryz.prog w = .ok (.int .u64 (lw v 0 : Nat)) w :=
 e0Z (P := Tryz.prog) Tryz.underlying111 Tryz.underlying58 c0L v 0 ap15 .i64 w
theorem h0d (v : Nat) : bits .and .u64 (lw v 0 : Nat) 1 = ((v % 2 : Nat) : Int) := by
 have ha := bits_and_u64_nat (lw v 0) 1 (c0Q _ _) ap16
 rw [Nat.and_one_is_mod, r0l] at ha
 rw [r0l]
 refine Eq.trans ha ?_
 congr 1
 omega
attribute [local irreducible] a0C lw mix cw b0k b0y b0j a0M a0n beN b0F a0P b0C a0J a0R elN
theorem r0v (m : Md) (gp : Nat) (w : World) (hok : m.Ok) (hpm : Has w gp (mdL m) 187) (x n : Nat) (hn : m.M / 4 + 1 = n) (hr : ((x ^ n) * (x ^ n) % m.M == x % m.M) = false) :
  Calls Tryz.prog 198 #[.pointer (some ⟨gp, 0, none⟩), i4 (elN m x)] w fun e w' => e = .returned (.tuple #[i4 0, .bool false]) ∧ Fr Nob w w' := by
 have HOK := qH hok
 have HPM := qH hpm
 clear hok hpm
 have HE4 := qH (show n < B64 ^ 4 by subst hn; have := HOK.out.lt; have := HOK.out.one; omega)
 have h1p := fun wx => g0o (m.M / 4) 1 wx
 rw [← b0V 1 ap15, hn] at h1p
 clear hn
 have H1P := qH h1p
 clear h1p
 have HR := qH hr
 clear hr
 have st0 := St.start Nob w
 go_enter Tryz.func198, Tryz.ntmps198
 go_wp2_with (with_reducible refine wSk 3 ?_)
 refine a0l st0 rfl rfl rfl (cw 4 (elN m x)) rfl ?_
 intro g3 w1 st1
 clear st0
 go_wp2_with (with_reducible refine wSk 4 ?_)
 refine a0a st1 rfl rfl (z := zAd) ap14 (cw 4 0) ap12 ?_
 intro g4 w2 st2
 clear st1
 go_wp2_with (with_reducible refine wSk 13 ?_)
 refine c0c rfl rfl Tryz.underlying111 rfl (HPM.out.keep st2.fr id) (cw 4 m.M) (l0T m) ap4 ?_
 go_wp2_with fail
 refine (i0P m.M _ HOK.out.lt).mono ?_
 rintro e' w3 ⟨rfl, hf3⟩
 have st3 := st2.keep hf3
 clear st2 hf3
 go_wp2_with fail
 refine (H1P.out _).mono ?_
 rintro e' w4 ⟨rfl, hf4⟩
 have st4 := st3.keep hf4
 clear st3 hf4
 go_wp2_with (with_reducible refine wSk 6 ?_)
 refine a0a st4 rfl rfl (z := zAd) ap14 (cw 4 0) ap12 ?_
 intro g6 w5 st5
 clear st4
 go_wp2_with (with_reducible refine wSn ?_)
 refine a0b st5 2 rfl rfl rfl rfl rfl ap5 ap4 (a0f _ _) ?_
 intro w6 st6
 clear st5
 go_wp2_with (with_reducible refine wSk 20 ?_)
 refine a0k st6 0 rfl rfl rfl Tryz.underlying66 rfl ap4 ?_
 go_wp2_with (with_reducible refine wSk 21 ?_)
 refine a0k st6 2 rfl rfl rfl Tryz.underlying111 rfl ap4 ?_
 go_wp2_with fail
 refine (h0S m gp _ HOK.out (HPM.out.keep st6.fr id) x n HE4.out).mono ?_
 rintro e' w7 ⟨rfl, hf7⟩
 have st7 := st6.keep hf7
 clear st6 hf7
 go_wp2_with (with_reducible refine wSk 8 ?_)
 refine a0a st7 rfl rfl (z := zAd) ap14 (cw 4 0) ap12 ?_
 intro g8 w8 st8
 clear st7
 go_wp2_with (with_reducible refine wSn ?_)
 refine a0b st8 3 rfl rfl rfl rfl rfl ap5 ap4 (a0f _ _) ?_
 intro w9 st9
 clear st8
 go_wp2_with fail
 refine wp_region_noPanic ?_
 refine a0o (fun wx => St Nob w wx [(g3, cw 4 (elN m x), 66), (g4, cw 4 0, 66), (g6, cw 4 n, 111), (g8, cw 4 (elN m (x ^ n)), 66)]) 4 (.w 0 (.t 1 (.t 3 (.r 2 (.m 4 .nil))))) ap14 ap14 st9.drew (fun _ _ _ _ _ h => h) ?_
 have hd9 := st9.drew
 clear st9
 refine a0j rfl rfl apW ?_
 try simp only [clL]
 refine a0s rfl rfl rfl rfl (cw 4 (elN m (x ^ n))) (fun wx hS => St.rangeL hS 3 rfl 0 _ dZl) Tryz.underlying66 rfl ap4 ?_
 try simp only [clL]
 refine a0s rfl rfl rfl rfl (cw 4 (elN m x)) (fun wx hS => St.rangeL hS 0 rfl 0 _ dZl) Tryz.underlying66 rfl ap4 ?_
 try simp only [clL]
 refine a0w rfl rfl ?_
 go_simp
 refine (d0I m gp _ HOK.out (HPM.out.keep hd9.fr id) (x ^ n)).mono ?_
 rintro e' w10 ⟨rfl, hf10⟩
 have st10 := hd9.keep hf10
 clear hf10
 clear hd9
 refine ⟨st10, ?_⟩
 try simp only [clL]
 refine a0q rfl rfl ?_
 refine l0k m HOK.out ((x ^ n) * (x ^ n)) x 66 Tryz.underlying66 Tryz.eqGuardType66 rfl rfl rfl HR.out ?_
 try simp only [clL]
 refine a0g ?_
 refine NoPanic.normal ?_
 go_wp2_with (with_reducible refine wSn ?_)
 refine a0b st10 1 rfl rfl rfl rfl (cs := cw 4 0) ap12 ap5 ap4 (a0f _ _) ?_
 intro w11 st11
 clear st10
 have hr := st11.at 1 rfl
 have hfr := st11.fr
 clear st11
 go_wp2_with fail
 exact bodyPost_ret (b0c rfl rfl hr Tryz.underlying66 ap4 rfl) rfl ⟨rfl, hfr⟩
theorem r0w (m : Md) (gp : Nat) (w : World) (hok : m.Ok) (hpm : Has w gp (mdL m) 187) (x n : Nat) (hn : m.M / 4 + 1 = n) (hr : ((x ^ n) * (x ^ n) % m.M == x % m.M) = true) (hb : (x ^ n) % m.M % 2 = 0) :
  Calls Tryz.prog 198 #[.pointer (some ⟨gp, 0, none⟩), i4 (elN m x)] w fun e w' => e = .returned (.tuple #[i4 (elN m (x ^ n)), .bool true]) ∧ Fr Nob w w' := by
 have HOK := qH hok
 have HPM := qH hpm
 clear hok hpm
 have HB := qH hb
 have HE4 := qH (show n < B64 ^ 4 by subst hn; have := HOK.out.lt; have := HOK.out.one; omega)
 have h1p := fun wx => g0o (m.M / 4) 1 wx
 rw [← b0V 1 ap15, hn] at h1p
 clear hn
 have H1P := qH h1p
 clear h1p
 have HR := qH hr
 clear hr
 clear hb
 have st0 := St.start Nob w
 go_enter Tryz.func198, Tryz.ntmps198
 go_wp2_with (with_reducible refine wSk 3 ?_)
 refine a0l st0 rfl rfl rfl (cw 4 (elN m x)) rfl ?_
 intro g3 w1 st1
 clear st0
 go_wp2_with (with_reducible refine wSk 4 ?_)
 refine a0a st1 rfl rfl (z := zAd) ap14 (cw 4 0) ap12 ?_
 intro g4 w2 st2
 clear st1
 go_wp2_with (with_reducible refine wSk 13 ?_)
 refine c0c rfl rfl Tryz.underlying111 rfl (HPM.out.keep st2.fr id) (cw 4 m.M) (l0T m) ap4 ?_
 go_wp2_with fail
 refine (i0P m.M _ HOK.out.lt).mono ?_
 rintro e' w3 ⟨rfl, hf3⟩
 have st3 := st2.keep hf3
 clear st2 hf3
 go_wp2_with fail
 refine (H1P.out _).mono ?_
 rintro e' w4 ⟨rfl, hf4⟩
 have st4 := st3.keep hf4
 clear st3 hf4
 go_wp2_with (with_reducible refine wSk 6 ?_)
 refine a0a st4 rfl rfl (z := zAd) ap14 (cw 4 0) ap12 ?_
 intro g6 w5 st5
 clear st4
 go_wp2_with (with_reducible refine wSn ?_)
 refine a0b st5 2 rfl rfl rfl rfl rfl ap5 ap4 (a0f _ _) ?_
 intro w6 st6
 clear st5
 go_wp2_with (with_reducible refine wSk 20 ?_)
 refine a0k st6 0 rfl rfl rfl Tryz.underlying66 rfl ap4 ?_
 go_wp2_with (with_reducible refine wSk 21 ?_)
 refine a0k st6 2 rfl rfl rfl Tryz.underlying111 rfl ap4 ?_
 go_wp2_with fail
 refine (h0S m gp _ HOK.out (HPM.out.keep st6.fr id) x n HE4.out).mono ?_
 rintro e' w7 ⟨rfl, hf7⟩
 have st7 := st6.keep hf7
 clear st6 hf7
 go_wp2_with (with_reducible refine wSk 8 ?_)
 refine a0a st7 rfl rfl (z := zAd) ap14 (cw 4 0) ap12 ?_
 intro g8 w8 st8
 clear st7
 go_wp2_with (with_reducible refine wSn ?_)
 refine a0b st8 3 rfl rfl rfl rfl rfl ap5 ap4 (a0f _ _) ?_
 intro w9 st9
 clear st8
 go_wp2_with fail
 refine wp_region_noPanic ?_
 refine a0o (fun wx => St Nob w wx [(g3, cw 4 (elN m x), 66), (g4, cw 4 0, 66), (g6, cw 4 n, 111), (g8, cw 4 (elN m (x ^ n)), 66)]) 4 (.w 0 (.t 1 (.t 3 (.r 2 (.m 4 .nil))))) ap14 ap14 st9.drew (fun _ _ _ _ _ h => h) ?_
 have hd9 := st9.drew
 clear st9
 refine a0j rfl rfl apW ?_
 try simp only [clL]
 refine a0s rfl rfl rfl rfl (cw 4 (elN m (x ^ n))) (fun wx hS => St.rangeL hS 3 rfl 0 _ dZl) Tryz.underlying66 rfl ap4 ?_
 try simp only [clL]
 refine a0s rfl rfl rfl rfl (cw 4 (elN m x)) (fun wx hS => St.rangeL hS 0 rfl 0 _ dZl) Tryz.underlying66 rfl ap4 ?_
 try simp only [clL]
 refine a0w rfl rfl ?_
 go_simp
 refine (d0I m gp _ HOK.out (HPM.out.keep hd9.fr id) (x ^ n)).mono ?_
 rintro e' w10 ⟨rfl, hf10⟩
 have st10 := hd9.keep hf10
 clear hf10
 clear hd9
 refine ⟨st10, ?_⟩
 try simp only [clL]
 refine a0q rfl rfl ?_
 refine l0k m HOK.out ((x ^ n) * (x ^ n)) x 66 Tryz.underlying66 Tryz.eqGuardType66 rfl rfl rfl HR.out ?_
 try simp only [clL]
 refine a0g ?_
 refine NoPanic.normal ?_
 have hix := fun wx => p0Y ((x ^ n) % m.M) wx
 have hla := h0d ((x ^ n) % m.M)
 rw [HB.out] at hla
 go_wp2_with (with_reducible refine wSk 30 ?_)
 refine a0k st10 3 rfl rfl rfl Tryz.underlying66 rfl ap4 ?_
 go_wp2_with fail
 refine (f0e m gp _ HOK.out (HPM.out.keep st10.fr id) (x ^ n)).mono ?_
 rintro e' w11 ⟨rfl, hf11⟩
 have st11 := st10.keep hf11
 clear st10 hf11
 go_wp2_with (with_reducible refine wSk 38 ?_)
 refine a0k st11 3 rfl rfl rfl Tryz.underlying66 rfl ap4 ?_
 go_wp2_with (with_reducible refine wSn ?_)
 refine a0b st11 1 rfl rfl rfl rfl rfl ap5 ap4 (a0f _ _) ?_
 intro w12 st12
 clear st11
 have hr := st12.at 1 rfl
 have hfr := st12.fr
 clear st12
 go_wp2_with fail
 exact bodyPost_ret (b0c rfl rfl hr Tryz.underlying66 ap4 rfl) rfl ⟨rfl, hfr⟩
theorem t0z (m : Md) (gp : Nat) (w : World) (hok : m.Ok) (hpm : Has w gp (mdL m) 187) (x n : Nat) (hn : m.M / 4 + 1 = n) (hr : ((x ^ n) * (x ^ n) % m.M == x % m.M) = true) (hb : (x ^ n) % m.M % 2 = 1) :
  Calls Tryz.prog 198 #[.pointer (some ⟨gp, 0, none⟩), i4 (elN m x)] w fun e w' => e = .returned (.tuple #[i4 (elN m (m.M - (x ^ n) % m.M)), .bool true]) ∧ Fr Nob w w' := by
 have HOK := qH hok
 have HPM := qH hpm
 clear hok hpm
 have HB := qH hb
 have HE4 := qH (show n < B64 ^ 4 by subst hn; have := HOK.out.lt; have := HOK.out.one; omega)
 have h1p := fun wx => g0o (m.M / 4) 1 wx
 rw [← b0V 1 ap15, hn] at h1p
 clear hn
 have H1P := qH h1p
 clear h1p
 have HR := qH hr
 clear hr
 clear hb
 have st0 := St.start Nob w
 go_enter Tryz.func198, Tryz.ntmps198
 go_wp2_with (with_reducible refine wSk 3 ?_)
 refine a0l st0 rfl rfl rfl (cw 4 (elN m x)) rfl ?_
 intro g3 w1 st1
 clear st0
 go_wp2_with (with_reducible refine wSk 4 ?_)
 refine a0a st1 rfl rfl (z := zAd) ap14 (cw 4 0) ap12 ?_
 intro g4 w2 st2
 clear st1
 go_wp2_with (with_reducible refine wSk 13 ?_)
 refine c0c rfl rfl Tryz.underlying111 rfl (HPM.out.keep st2.fr id) (cw 4 m.M) (l0T m) ap4 ?_
 go_wp2_with fail
 refine (i0P m.M _ HOK.out.lt).mono ?_
 rintro e' w3 ⟨rfl, hf3⟩
 have st3 := st2.keep hf3
 clear st2 hf3
 go_wp2_with fail
 refine (H1P.out _).mono ?_
 rintro e' w4 ⟨rfl, hf4⟩
 have st4 := st3.keep hf4
 clear st3 hf4
 go_wp2_with (with_reducible refine wSk 6 ?_)
 refine a0a st4 rfl rfl (z := zAd) ap14 (cw 4 0) ap12 ?_
 intro g6 w5 st5
 clear st4
 go_wp2_with (with_reducible refine wSn ?_)
 refine a0b st5 2 rfl rfl rfl rfl rfl ap5 ap4 (a0f _ _) ?_
 intro w6 st6
 clear st5
 go_wp2_with (with_reducible refine wSk 20 ?_)
 refine a0k st6 0 rfl rfl rfl Tryz.underlying66 rfl ap4 ?_
 go_wp2_with (with_reducible refine wSk 21 ?_)
 refine a0k st6 2 rfl rfl rfl Tryz.underlying111 rfl ap4 ?_
 go_wp2_with fail
 refine (h0S m gp _ HOK.out (HPM.out.keep st6.fr id) x n HE4.out).mono ?_
 rintro e' w7 ⟨rfl, hf7⟩
 have st7 := st6.keep hf7
 clear st6 hf7
 go_wp2_with (with_reducible refine wSk 8 ?_)
 refine a0a st7 rfl rfl (z := zAd) ap14 (cw 4 0) ap12 ?_
 intro g8 w8 st8
 clear st7
 go_wp2_with (with_reducible refine wSn ?_)
 refine a0b st8 3 rfl rfl rfl rfl rfl ap5 ap4 (a0f _ _) ?_
 intro w9 st9
 clear st8
 go_wp2_with fail
 refine wp_region_noPanic ?_
 refine a0o (fun wx => St Nob w wx [(g3, cw 4 (elN m x), 66), (g4, cw 4 0, 66), (g6, cw 4 n, 111), (g8, cw 4 (elN m (x ^ n)), 66)]) 4 (.w 0 (.t 1 (.t 3 (.r 2 (.m 4 .nil))))) ap14 ap14 st9.drew (fun _ _ _ _ _ h => h) ?_
 have hd9 := st9.drew
 clear st9
 refine a0j rfl rfl apW ?_
 try simp only [clL]
 refine a0s rfl rfl rfl rfl (cw 4 (elN m (x ^ n))) (fun wx hS => St.rangeL hS 3 rfl 0 _ dZl) Tryz.underlying66 rfl ap4 ?_
 try simp only [clL]
 refine a0s rfl rfl rfl rfl (cw 4 (elN m x)) (fun wx hS => St.rangeL hS 0 rfl 0 _ dZl) Tryz.underlying66 rfl ap4 ?_
 try simp only [clL]
 refine a0w rfl rfl ?_
 go_simp
 refine (d0I m gp _ HOK.out (HPM.out.keep hd9.fr id) (x ^ n)).mono ?_
 rintro e' w10 ⟨rfl, hf10⟩
 have st10 := hd9.keep hf10
 clear hf10
 clear hd9
 refine ⟨st10, ?_⟩
 try simp only [clL]
 refine a0q rfl rfl ?_
 refine l0k m HOK.out ((x ^ n) * (x ^ n)) x 66 Tryz.underlying66 Tryz.eqGuardType66 rfl rfl rfl HR.out ?_
 try simp only [clL]
 refine a0g ?_
 refine NoPanic.normal ?_
 have hix := fun wx => p0Y ((x ^ n) % m.M) wx
 have hla := h0d ((x ^ n) % m.M)
 rw [HB.out] at hla
 go_wp2_with (with_reducible refine wSk 30 ?_)
 refine a0k st10 3 rfl rfl rfl Tryz.underlying66 rfl ap4 ?_
 go_wp2_with fail
 refine (f0e m gp _ HOK.out (HPM.out.keep st10.fr id) (x ^ n)).mono ?_
 rintro e' w11 ⟨rfl, hf11⟩
 have st11 := st10.keep hf11
 clear st10 hf11
 go_wp2_with (with_reducible refine wSk 36 ?_)
 refine a0k st11 3 rfl rfl rfl Tryz.underlying66 rfl ap4 ?_
 go_wp2_with fail
 refine (l0h m gp _ HOK.out (HPM.out.keep st11.fr id) (x ^ n)).mono ?_
 rintro e' w12 ⟨rfl, hf12⟩
 have st12 := st11.keep hf12
 clear st11 hf12
 go_wp2_with (with_reducible refine wSn ?_)
 refine a0b st12 3 rfl rfl rfl rfl rfl ap5 ap4 (a0f _ _) ?_
 intro w13 st13
 clear st12
 go_wp2_with (with_reducible refine wSk 38 ?_)
 refine a0k st13 3 rfl rfl rfl Tryz.underlying66 rfl ap4 ?_
 go_wp2_with (with_reducible refine wSn ?_)
 refine a0b st13 1 rfl rfl rfl rfl rfl ap5 ap4 (a0f _ _) ?_
 intro w14 st14
 clear st13
 have hr := st14.at 1 rfl
 have hfr := st14.fr
 clear st14
 go_wp2_with fail
 exact bodyPost_ret (b0c rfl rfl hr Tryz.underlying66 ap4 rfl) rfl ⟨rfl, hfr⟩
end Go.Proofs.YtemcankmggmgoaaGreat
namespace Go.Mv
open Go.RowKit Mvp
variable {P : Program}
theorem w0K {t e : TypeId} (hu : P.underlying t = some (.array 4 e)) (he : P.underlying e = some (.int .u64)) (hi0 : (P.info? e).map (·.size) = some 1) (d : Nat) (a b : Nat) (w : World) :
  (Op.equalIn (d + 2) t (.agg (cw 4 a).toArray) (.agg (cw 4 b).toArray)).run P w = .ok (decide (a % B64 ^ 4 = b % B64 ^ 4)) w := by
 obtain ⟨j, hj, hsz⟩ : ∃ j, P.info? e = some j ∧ j.size = 1 := by simpa using hi0
 have hc : P.cellsOf e = 1 := by simp [Program.cellsOf, hj, hsz]
 have hp : ∀ (x k : Nat), k < 4 → (part e (cw 4 x).toArray k).run P w = .ok (.int .u64 (lw x k : Nat)) w := by
  intro x k hk
  have hv := a0G 4 x k hk
  simp [part, isAgg, run_underlying he, sizeOf, typeInfo, hj, hsz, hv]
 have hq : ∀ (x y : Int), (Op.equalIn (d + 1) e (.int .u64 x) (.int .u64 y)).run P w = .ok (x == y) w := fun x y => by
  simp [Op.equalIn, run_underlying he]
 have hbe : ∀ k, ((lw a k : Int) == (lw b k : Int)) = decide (lw a k = lw b k) := by
  intro k
  rw [Bool.eq_iff_iff]; simp; omega
 show (Op.equalIn (d + 1 + 1) t _ _).run P w = _
 rw [run_equalIn_array w (d + 1) _ _ hu hj, hc]
 have hfin : decide (a % B64 ^ 4 = b % B64 ^ 4) = (decide (lw a 0 = lw b 0) && (decide (lw a 1 = lw b 1) && (decide (lw a 2 = lw b 2) && decide (lw a 3 = lw b 3)))) := by
  rw [Bool.eq_iff_iff]
  simp only [decide_eq_true_eq, Bool.and_eq_true]
  constructor
  ·intro h
   refine ⟨?_, ?_, ?_, ?_⟩ <;> (rw [← e0l a _ 4 ap15, h, e0l b _ 4 ap15])
  ·rintro ⟨h0, h1, h2, h3⟩
   refine d0t (e0m fun i hi => ?_)
   have : i = 0 ∨ i = 1 ∨ i = 2 ∨ i = 3 := by omega
   rcases this with rfl | rfl | rfl | rfl <;> assumption
 rw [hfin]
 show (Op.eqItems (d + 1) e 1 _ _ [0, 1, 2, 3]).run P w = _
 have p0 := fun x => hp x 0 ap15
 have p1 := fun x => hp x 1 ap15
 have p2 := fun x => hp x 2 ap15
 have p3 := fun x => hp x 3 ap15
 clear hp hfin
 by_cases h0 : lw a 0 = lw b 0 <;> by_cases h1 : lw a 1 = lw b 1 <;> by_cases h2 : lw a 2 = lw b 2 <;> by_cases h3 : lw a 3 = lw b 3 <;> simp [Op.eqItems, p0, p1, p2, p3, hq, hbe, h0, h1, h2, h3, -beq_iff_eq]
theorem j0E {t : TypeId} {d : TypeDesc} (hu : P.underlying t = some d) (hd : (match d with | .struct _ | .array _ _ => true | _ => false) = true) (cs : List Value) (hi : (P.info? t).map (·.size) = some cs.length) (w : World) :
  (part t cs.toArray 0).run P w = .ok (.agg cs.toArray) w := by
 obtain ⟨j, hj, hsz⟩ : ∃ j, P.info? t = some j ∧ j.size = cs.length := by simpa using hi
 cases d <;> simp at hd <;> simp [part, isAgg, run_underlying hu, sizeOf, typeInfo, hj, hsz]
end Go.Mv
namespace Go.Proofs.YtemcankmggmgoaaGreat
open Go.RowKit Go.Mv Mvp
theorem p0Z : Tryz.prog.fieldsOf 68 = #[{ name := "e", type := 66, offset := 0, embedded := false, tag := "", pkgPath := "mintvault/zn", byteOffset := 0 }] := by kernel_rfl
theorem A0i (m : Md) (h : m.Ok) (x y : Nat) (d : Nat) (w : World) : (Op.equalIn (d + 3) 68 (i4 (elN m x)) (i4 (elN m y))).run Tryz.prog w = .ok (x % m.M == y % m.M) w := by
 have hb : decide (elN m x % B64 ^ 4 = elN m y % B64 ^ 4) = (x % m.M == y % m.M) := by
  rw [Nat.mod_eq_of_lt (i0N m h x), Nat.mod_eq_of_lt (i0N m h y), Bool.eq_iff_iff]
  simp only [decide_eq_true_eq, beq_iff_eq]
  exact ⟨y0K m h, h0R m⟩
 have h1 : ∀ v, (part 66 (cw 4 v).toArray 0).run Tryz.prog w = .ok (i4 v) w := fun v => j0E Tryz.underlying66 rfl (cw 4 v) ap10 w
 have h2 := w0K (P := Tryz.prog) Tryz.underlying66 Tryz.underlying58 c0L d (elN m x) (elN m y) w
 rw [hb] at h2
 have h2' : (Op.equalIn (d + 2) 66 (i4 (elN m x)) (i4 (elN m y))).run Tryz.prog w = .ok (x % m.M == y % m.M) w := h2
 show (Op.equalIn (d + 2 + 1) 68 (.agg (cw 4 (elN m x)).toArray) (.agg (cw 4 (elN m y)).toArray)).run Tryz.prog w = _
 rw [run_equalIn_struct w (d + 2) 68 _ _ (by rw [p0Z]; exact Tryz.underlying68) ap14, p0Z]
 generalize (x % m.M == y % m.M) = b at *
 have h3 := h1 (elN m x)
 have h4 := h1 (elN m y)
 generalize (cw 4 (elN m x)).toArray = xs at *
 generalize (cw 4 (elN m y)).toArray = ys at *
 have hne : ("e" : String) ≠ "_" := by decide
 show (Op.eqFields (d + 2) xs ys [_]).run _ w = _
 unfold Op.eqFields
 rw [if_pos hne]
 simp only [Sem.run_bind]
 rw [h3, Result.andThen_ok, h4, Result.andThen_ok, h2', Result.andThen_ok]
 cases b <;> simp [Op.eqFields]
theorem t0A (op : BinOp) (a b : Operand) (x y : Nat) (w : World) : (eqGuard op 68 a b (i4 x) (i4 y)).run Tryz.prog w = .ok () w := run_eqGuard_agg w op 68 a b _ _ Tryz.eqGuardType68
theorem d0W {P : Program} {ty : TypeId} {xs ys : Array Value} {b : Bool} (w : World) (h : (Op.equal ty (.agg xs) (.agg ys)).run P w = .ok b w) : (binOp .eql ty (.agg xs) (.agg ys)).run P w = .ok (.bool b) w := by
 show (do pure (Value.bool (← Op.equal ty (.agg xs) (.agg ys)))).run P w = _
 simp only [Sem.run_bind, h, Result.andThen_ok]
 rfl
theorem E0R (m : Md) (h : m.Ok) (x y : Nat) (w : World) : (binOp .eql 68 (i4 (elN m x)) (i4 (elN m y))).run Tryz.prog w = .ok (.bool (x % m.M == y % m.M)) w := by
 have h1 := A0i m h x y 9997 w
 exact d0W w h1
theorem c0V {P : Program} {op : BinOp} {ty : TypeId} {o : Oper} {a : Act} {p q : Operand} {T : TypeId} {x y v : Value} (ho : o.op = .binOp op ty p q T) (hp : a.eval p = x) (hq : a.eval q = y) (w : World)
  (h1 : (eqGuard op ty p q x y).run P w = .ok () w) (h2 : (binOp op ty x y).run P w = .ok v w) : (execOp a.eval o).run P w = .ok (.value v) w := by
 subst hp hq
 unfold execOp
 simp only [ho, Sem.run_bind, h1, h2, Result.andThen_ok, Sem.run_pure]
theorem t0B (m : Md) (h : m.Ok) (x y : Nat) {o : Oper} {a : Act} {p q : Operand} {T : TypeId} (ho : o.op = .binOp .eql 68 p q T) (hp : a.eval p = i4 (elN m x)) (hq : a.eval q = i4 (elN m y)) {b : Bool} (hb : (x % m.M == y % m.M) = b) (w : World) :
  (execOp a.eval o).run Tryz.prog w = .ok (.value (.bool b)) w := by
 subst hb
 exact c0V ho hp hq w (t0A .eql p q (elN m x) (elN m y) w) (E0R m h x y w)
theorem t0C (m : Md) (h : m.Ok) (x y : Nat) {o : Oper} {a : Act} {p q : Operand} {T ty : TypeId} (hu : Tryz.prog.underlying ty = some (.array 4 58)) (hg : Tryz.prog.eqGuardType Tryz.prog.depth ty = false) (ho : o.op = .binOp .eql ty p q T) (hp : a.eval p = i4 (elN m x)) (hq : a.eval q = i4 (elN m y)) {b : Bool} (hb : (x % m.M == y % m.M) = b) (w : World) :
  (execOp a.eval o).run Tryz.prog w = .ok (.value (.bool b)) w := by
 subst hb
 exact c0V ho hp hq w (run_eqGuard_agg w .eql ty p q _ _ hg) (d0W w (C0t m h x y ty hu w))
theorem f0g {o : Oper} {a : Act} {w : World} {P : Program} {ops : Array Oper} {rest : List Oper} {Q : Exit → Act → World → Prop} {v : Value} (hgd : o.guard = none) (hx : (execOp a.eval o).run P w = .ok (.value v) w) (h : wpList P ops Q rest (a.put o.dst v) w) : wpList P ops Q (o :: rest) a w := by
 refine wpList_plain hgd fun K hK => ?_
 unfold Oper.wp
 rw [hx]
 exact hK _ _ h
attribute [local irreducible] a0C lw mix cw b0k b0y b0j a0M a0n beN b0F a0P b0C a0J a0R elN mdL a0S
theorem w0L : (Value.agg #[.int .u64 0, .int .u64 0, .int .u64 0, .int .u64 0]) = i4 0 := by rw [i4, g0Y]; rfl
theorem w0M : Tryz.prog.built 66 [] = some #[.int .u64 0, .int .u64 0, .int .u64 0, .int .u64 0] := by kernel_rfl
theorem d0J (m : Md) (hok : m.Ok) (x : Nat) (b : Bool) (hb : (x % m.M == 0) = b) (w : World) :
  Calls Tryz.prog 162 #[i4 (elN m x)] w fun e w' => e = .returned (.bool b) ∧ Fr Nob w w' := by
 have HOK := qH hok
 have HB := qH (show (x % m.M == 0 % m.M) = b by rw [Nat.zero_mod]; exact hb)
 have HZ := qH (show i4 0 = i4 (elN m 0) by rw [e0a])
 clear hok hb
 have st0 := St.start Nob w
 go_enter Tryz.func162, Tryz.ntmps162
 go_wp2_with (with_reducible refine wSk 1 ?_)
 refine a0l st0 rfl rfl rfl (cw 4 (elN m x)) rfl ?_
 intro g1 w1 st1
 clear st0
 go_wp2_with (with_reducible refine wSk 3 ?_)
 refine a0k st1 0 rfl rfl rfl Tryz.underlying66 rfl ap4 ?_
 go_wp2_with (with_reducible refine wSk 4 ?_)
 refine c0J rfl rfl _ w0M ?_
 rw [w0L, HZ.out]
 go_wp2_with (with_reducible refine wSk 5 ?_)
 refine f0g rfl (t0C m HOK.out x 0 Tryz.underlying66 Tryz.eqGuardType66 rfl rfl rfl HB.out _) ?_
 have hfr := st1.fr
 clear st1
 go_wp2_with fail
 go_ret
 exact ⟨rfl, hfr⟩
theorem f0h (m : Md) (hok : m.Ok) (x : Nat) (b : Bool) (hb : (x % m.M == 0) = b) (w : World) :
  Calls Tryz.prog 104 #[i4 (elN m x)] w fun e w' => e = .returned (.bool b) ∧ Fr Nob w w' := by
 have HOK := qH hok
 have HB := qH hb
 clear hok hb
 have st0 := St.start Nob w
 go_enter Tryz.func104, Tryz.ntmps104
 go_wp2_with (with_reducible refine wSk 1 ?_)
 refine a0l st0 rfl rfl rfl (cw 4 (elN m x)) rfl ?_
 intro g1 w1 st1
 clear st0
 go_wp2_with (with_reducible refine wSk 4 ?_)
 refine a0k st1 0 rfl rfl rfl Tryz.underlying66 rfl ap4 ?_
 go_wp2_with fail
 refine (d0J m HOK.out x b HB.out _).mono ?_
 rintro e' w2 ⟨rfl, hf2⟩
 have st2 := st1.keep hf2
 clear st1 hf2
 have hfr := st2.fr
 clear st2
 go_wp2_with fail
 go_ret
 exact ⟨rfl, hfr⟩
theorem r0x (v : Int) : Tryz.prog.built 111 [(0, .int .u64 v)] = some #[.int .u64 v, .int .u64 0, .int .u64 0, .int .u64 0] := by kernel_rfl
theorem k0c (m : Md) (gp : Nat) (w : World) (hok : m.Ok) (hpm : Has w gp (mdL m) 187) (k : Nat) (hk : k < 18446744073709551616) :
  Calls Tryz.prog 134 #[.pointer (some ⟨gp, 0, none⟩), .int .u64 (k : Int)] w fun e w' => e = .returned (i4 (elN m k)) ∧ Fr Nob w w' := by
 have HOK := qH hok
 have HPM := qH hpm
 have HW := qH (b0V k hk)
 have HK4 := qH (show k < B64 ^ 4 from Nat.lt_of_lt_of_le hk ap15)
 clear hok hpm hk
 have st0 := St.start Nob w
 go_enter Tryz.func134, Tryz.ntmps134
 go_wp2_with (with_reducible refine wSk 4 ?_)
 refine a0a st0 rfl rfl (z := zAd) ap14 (cw 4 0) ap12 ?_
 intro g4 w1 st1
 clear st0
 go_wp2_with (with_reducible refine wSk 7 ?_)
 refine a0Y rfl rfl _ (r0x (k : Int)) ?_
 rw [HW.out]
 go_wp2_with fail
 refine (d0k m gp _ HOK.out (HPM.out.keep st1.fr id) k HK4.out).mono ?_
 rintro e' w2 ⟨rfl, hf2⟩
 have st2 := st1.keep hf2
 clear st1 hf2
 go_wp2_with (with_reducible refine wSn ?_)
 refine a0b st2 0 rfl rfl rfl rfl rfl ap5 ap4 (a0f _ _) ?_
 intro w3 st3
 clear st2
 have hr := st3.at 0 rfl
 have hfr := st3.fr
 clear st3
 go_wp2_with fail
 exact bodyPost_ret (a0v rfl rfl hr Tryz.underlying66 ap4) rfl ⟨rfl, hfr⟩
theorem r0y (m : Md) (hk : KindOf 1 m) (k : Nat) (hk4 : k < 18446744073709551616) (w : World) :
  Calls Tryz.prog 63 #[.int .u64 (k : Int)] w fun e w' => e = .returned (i4 (elN m k)) ∧ Fr Nob w w' := by
 have HK := qH hk
 have HOK := qH hk.ok
 clear hk
 have HK4 := qH hk4
 clear hk4
 have st0 := St.start Nob w
 go_enter Tryz.func63, Tryz.ntmps63
 go_wp2_with (with_reducible refine wSk 2 ?_)
 refine a0a st0 rfl rfl (z := zAd) ap14 (cw 4 0) ap12 ?_
 intro g2 w1 st1
 clear st0
 go_wp2_with fail
 refine (d0d m HK.out _).mono ?_
 rintro e' w2 ⟨gp, rfl, hle, hm, hf2⟩
 have st2 : St Nob w w2 [(g2, cw 4 0, 68), (gp, mdL m, 187)] := st1.new hf2 hm hle
 clear st1 hf2 hm hle
 go_wp2_with fail
 refine (k0c m gp _ HOK.out (st2.at 1 rfl) k HK4.out).mono ?_
 rintro e' w3 ⟨rfl, hf3⟩
 have st3 := st2.keep hf3
 clear st2 hf3
 go_wp2_with (with_reducible refine wSk 6 ?_)
 refine a0Y rfl rfl _ (h0c _) ?_
 go_wp2_with (with_reducible refine wSn ?_)
 refine a0b st3 0 rfl rfl rfl rfl rfl ap5 ap4 (a0f _ _) ?_
 intro w4 st4
 clear st3
 have hr := st4.at 0 rfl
 have hfr := st4.fr
 clear st4
 go_wp2_with fail
 exact bodyPost_ret (a0r rfl rfl hr Tryz.underlying68 rfl ap4) rfl ⟨rfl, hfr⟩
theorem h0e (m : Md) (hk : KindOf 1 m) (x : Nat) (w : World) :
  Calls Tryz.prog 51 #[i4 (elN m x)] w fun e w' => ∃ v, e = .returned v ∧ Own w' w.heap.size 5 1 v 32 (bs (a0P (x % m.M))) ∧ Fr Nob w w' := by
 have HK := qH hk
 have HOK := qH hk.ok
 clear hk
 have st0 := St.start Nob w
 go_enter Tryz.func51, Tryz.ntmps51
 go_wp2_with (with_reducible refine wSk 1 ?_)
 refine a0l st0 rfl rfl rfl (cw 4 (elN m x)) rfl ?_
 intro g1 w1 st1
 clear st0
 go_wp2_with fail
 refine wp_region_noPanic ?_
 refine a0o (fun wx => St Nob w wx [(g1, cw 4 (elN m x), 68)]) 5 (.w 1 (.t 2 (.r 0 (.r 3 (.r 4 (.m 5 .nil)))))) ap14 ap14 st1.drew (fun _ _ _ _ _ h => h) ?_
 have hd1 := st1.drew
 clear st1
 refine a0j rfl rfl apW ?_
 try simp only [clL]
 refine a0s rfl rfl rfl rfl (cw 4 (elN m x)) (fun wx hS => St.rangeL hS 0 rfl 0 _ dZl) Tryz.underlying66 rfl ap4 ?_
 try simp only [clL]
 refine a0w rfl rfl ?_
 go_simp
 refine (d0d m HK.out _).mono ?_
 rintro e' w2 ⟨gp, rfl, hle, hm, hf2⟩
 have st2 : St Nob w w2 [(g1, cw 4 (elN m x), 68), (gp, mdL m, 187)] := hd1.new hf2 hm hle
 clear hf2 hm hle
 clear hd1
 refine ⟨St.less st2 ap17, ?_⟩
 try simp only [clL]
 refine a0w rfl rfl ?_
 go_simp
 refine (f0e m gp _ HOK.out (st2.at 1 rfl) x).mono ?_
 rintro e' w3 ⟨rfl, hf3⟩
 have st3 := st2.keep hf3
 clear hf3
 clear st2
 refine ⟨St.less st3 ap17, ?_⟩
 try simp only [clL]
 refine a0w rfl rfl ?_
 go_simp
 refine (j0X (x % m.M) _).mono ?_
 rintro e' w4 ⟨v, rfl, hown, hf4⟩
 have st4 := st3.keep hf4
 have HSZ := st3.fr.size
 obtain ⟨av, cv, hve, hcv, hrv, -⟩ := hown.form
 subst hve
 have HOWN := qH (hown.mono (HSZ))
 clear hown hrv
 clear hf4
 clear st3
 refine ⟨St.less st4 ap17, ?_⟩
 try simp only [clL]
 refine a0q rfl rfl ?_
 go_simp
 try simp only [clL]
 refine a0g ?_
 refine NoPanic.normal ?_
 have hfr := st4.fr
 clear st4
 go_wp2_with fail
 go_ret
 exact ⟨_, rfl, HOWN.out, hfr⟩
end Go.Proofs.YtemcankmggmgoaaGreat
namespace Go.Mv
open Go.RowKit
end Go.Mv
namespace Go.Proofs.YtemcankmggmgoaaGreat
open Go.RowKit Go.Mv Mvp
def ptL (m : Md) (x y z : Nat) : List Value := cw 4 (elN m x) ++ (cw 4 (elN m y) ++ cw 4 (elN m z))
def ptV (m : Md) (x y z : Nat) : Value := .agg (ptL m x y z).toArray
def e0b (m : Md) (gp bx by_ : Nat) : List Value := [.pointer (some ⟨gp, 0, none⟩)] ++ (cw 4 (elN m 7) ++ ptL m bx by_ 1)
theorem e0L (m : Md) (x y z : Nat) : (ptL m x y z).length = 12 := by simp [ptL, a0i]
theorem m0W (m : Md) (gp bx by_ : Nat) : ((e0b m gp bx by_).drop 1).take (cw 4 (elN m 7)).length = cw 4 (elN m 7) := by
 unfold e0b
 rw [List.singleton_append, List.drop_succ_cons, List.drop_zero, List.take_left]
theorem w0N (m : Md) (gp bx by_ : Nat) : ((e0b m gp bx by_).drop 5).take (ptL m bx by_ 1).length = ptL m bx by_ 1 := by
 have h : ([Value.pointer (some ⟨gp, 0, none⟩)] ++ cw 4 (elN m 7)).length = 5 := by rw [List.length_append, a0i]; rfl
 unfold e0b
 rw [← List.append_assoc, List.drop_append_of_le_length ap16, List.drop_of_length_le ap16, List.nil_append, List.take_of_length_le (Nat.le_refl _)]
theorem l0U (a b c : Nat) : ((cw 4 a ++ (cw 4 b ++ cw 4 c)).drop 0).take (cw 4 a).length = cw 4 a := by
 rw [List.drop_zero, List.take_left]
theorem n0M (a b c : Nat) : ((cw 4 a ++ (cw 4 b ++ cw 4 c)).drop 4).take (cw 4 b).length = cw 4 b := by
 have h : (cw 4 a).length = 4 := a0i _ _
 rw [List.drop_append_of_le_length ap16, List.drop_of_length_le ap16, List.nil_append, List.take_left]
theorem g0y (a b c : Nat) : ((cw 4 a ++ (cw 4 b ++ cw 4 c)).drop 8).take (cw 4 c).length = cw 4 c := by
 have h : (cw 4 a ++ cw 4 b).length = 8 := by rw [List.length_append, a0i, a0i]
 rw [← List.append_assoc, List.drop_append_of_le_length ap16, List.drop_of_length_le ap16, List.nil_append, List.take_of_length_le (Nat.le_refl _)]
theorem b0i (a b c : Nat) : ∀ v ∈ cw 4 a ++ (cw 4 b ++ cw 4 c), v.oneCell' = true := by
 intro v hv
 simp only [List.mem_append] at hv
 rcases hv with h | h | h <;> exact a0f _ _ v h
theorem f0w (a b c : Nat) : Tryz.prog.built 117 [(0, i4 a), (1, i4 b), (2, i4 c)] = some (cw 4 a ++ (cw 4 b ++ cw 4 c)).toArray := by kernel_rfl
theorem t0D (a b : Nat) : Tryz.prog.built 117 [(0, i4 a), (1, i4 b)] = some (cw 4 a ++ (cw 4 b ++ cw 4 0)).toArray := by kernel_rfl
attribute [local irreducible] a0C lw mix cw b0k b0y b0j a0M a0n beN b0F a0P b0C a0J a0R elN mdL a0S
theorem d0v (m : Md) (hok : m.Ok) (x y z : Nat) (b : Bool) (hb : (z % m.M == 0) = b) (w : World) :
  Calls Tryz.prog 149 #[ptV m x y z] w fun e w' => e = .returned (.bool b) ∧ Fr Nob w w' := by
 have HOK := qH hok
 have HB := qH hb
 clear hok hb
 unfold ptV ptL
 have st0 := St.start Nob w
 go_enter Tryz.func149, Tryz.ntmps149
 go_wp2_with (with_reducible refine wSk 1 ?_)
 refine a0l st0 rfl rfl rfl (cw 4 (elN m x) ++ (cw 4 (elN m y) ++ cw 4 (elN m z))) rfl ?_
 intro g1 w1 st1
 clear st0
 go_wp2_with (with_reducible refine wSk 4 ?_)
 refine c0c rfl rfl Tryz.underlying66 rfl (st1.at 0 rfl) (cw 4 (elN m z)) (g0y _ _ _) ap4 ?_
 go_wp2_with fail
 refine (d0J m HOK.out z b HB.out _).mono ?_
 rintro e' w2 ⟨rfl, hf2⟩
 have st2 := st1.keep hf2
 clear st1 hf2
 have hfr := st2.fr
 clear st2
 go_wp2_with fail
 go_ret
 exact ⟨rfl, hfr⟩
theorem m0X (m : Md) (gc gp bx by_ : Nat) (w : World) (hok : m.Ok) (hcv : Has w gc (e0b m gp bx by_) 125) (hpm : Has w gp (mdL m) 187) (x y z : Nat) :
  Calls Tryz.prog 185 #[.pointer (some ⟨gc, 0, none⟩), ptV m x y z] w fun e w' => e = .returned (ptV m x (m.M - y % m.M) z) ∧ Fr Nob w w' := by
 have HOK := qH hok
 have HCV := qH hcv
 have HPM := qH hpm
 clear hok hcv hpm
 unfold ptV ptL
 have st0 := St.start Nob w
 go_enter Tryz.func185, Tryz.ntmps185
 go_wp2_with (with_reducible refine wSk 3 ?_)
 refine a0l st0 rfl rfl rfl (cw 4 (elN m x) ++ (cw 4 (elN m y) ++ cw 4 (elN m z))) rfl ?_
 intro g3 w1 st1
 clear st0
 go_wp2_with (with_reducible refine wSk 4 ?_)
 refine a0a st1 rfl rfl (z := zAc) ap14 (cw 12 0) ap12 ?_
 intro g4 w2 st2
 clear st1
 go_wp2_with fail
 refine wp_region_noPanic ?_
 refine a0o (fun wx => St Nob w wx [(g3, cw 4 (elN m x) ++ (cw 4 (elN m y) ++ cw 4 (elN m z)), 117), (g4, cw 12 0, 117)]) 12 (.w 0 (.t 1 (.w 2 (.w 3 (.w 4 (.t 5 (.w 6 (.t 7 (.w 9 (.t 10 (.r 8 (.w 11 (.m 12 .nil))))))))))))) ap14 ap14 st2.drew (fun _ _ _ _ _ h => h) ?_
 have hd2 := st2.drew
 clear st2
 refine a0j rfl rfl apW ?_
 try simp only [clL]
 refine a0s rfl rfl rfl rfl (cw 4 (elN m x)) (fun wx hS => St.rangeL hS 0 rfl 0 _ (l0U _ _ _)) Tryz.underlying66 rfl ap4 ?_
 try simp only [clL]
 refine a0j rfl rfl apW ?_
 try simp only [clL]
 refine a0j rfl rfl apW ?_
 try simp only [clL]
 refine a0j rfl rfl apW ?_
 try simp only [clL]
 refine d0G (v := ?_) rfl rfl (fun wx hS => ?_) ?_
 rotate_left 1
 ·(have hc := (HCV.out.keep (St.fr hS) id).cell (i := 0) rfl; clear hS; go_simp; with_reducible rfl)
 try simp only [clL]
 refine a0j rfl rfl apW ?_
 try simp only [clL]
 refine a0s rfl rfl rfl rfl (cw 4 (elN m y)) (fun wx hS => St.rangeL hS 0 rfl 4 _ (n0M _ _ _)) Tryz.underlying66 rfl ap4 ?_
 try simp only [clL]
 refine a0j rfl rfl apW ?_
 try simp only [clL]
 refine a0s rfl rfl rfl rfl (cw 4 (elN m z)) (fun wx hS => St.rangeL hS 0 rfl 8 _ (g0y _ _ _)) Tryz.underlying66 rfl ap4 ?_
 try simp only [clL]
 refine a0w rfl rfl ?_
 go_simp
 refine (l0h m gp _ HOK.out (HPM.out.keep hd2.fr id) y).mono ?_
 rintro e' w3 ⟨rfl, hf3⟩
 have st3 := hd2.keep hf3
 clear hf3
 clear hd2
 refine ⟨st3, ?_⟩
 try simp only [clL]
 refine a0j rfl rfl (b0A rfl _ (f0w _ _ _)) ?_
 try simp only [clL]
 refine a0q rfl rfl ?_
 refine a0h st3 1 rfl rfl rfl rfl ap5 ap4 (b0i _ _ _) ?_
 intro w4 st4
 clear st3
 try simp only [Act.put]
 refine a0g ?_
 refine NoPanic.normal ?_
 have hr := st4.at 1 rfl
 have hfr := st4.fr
 clear st4
 go_wp2_with fail
 exact bodyPost_ret (a0r rfl rfl hr Tryz.underlying117 rfl ap4) rfl ⟨rfl, hfr⟩
end Go.Proofs.YtemcankmggmgoaaGreat
namespace Go.Mv
open Go.RowKit
end Go.Mv
