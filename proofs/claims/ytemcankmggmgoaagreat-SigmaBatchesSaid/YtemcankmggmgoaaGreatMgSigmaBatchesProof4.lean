/- ; ; ; ; ; ; ; ; ; ; ; ; ; ; ; ; ; ; . -/
import Derived.Test.YtemcankmggmgoaaGreatMgSigmaBatchesProof2
import Derived.Test.YtemcankmggmgoaaGreatMgSigmaBatchesProof3
import Derived.Test.YtemcankmggmgoaaGreatMgSigmaBatchesProof1
import Derived.ChangeKeysEq
import Derived.StillTailTactics
set_option maxHeartbeats 16000000
set_option maxRecDepth 1000000
open Go.Proofs.Tryz

namespace Mvp
def elN (m : Md) (x : Nat) : Nat := x * B64 ^ 4 % m.M
theorem zH (m : Md) (h : m.Ok) (x : Nat) : elN m x < m.M := Nat.mod_lt _ (by have := h.one; omega)
theorem b0u (m : Md) (h : m.Ok) (x : Nat) : elN m x < B64 ^ 4 := Nat.lt_trans (zH m h x) h.lt
theorem q0x (m : Md) : B64 ^ 4 % m.M = elN m 1 := by rw [elN, Nat.one_mul]
theorem kE (m : Md) : elN m 0 = 0 := by rw [elN, Nat.zero_mul, Nat.zero_mod]
theorem b0v (m : Md) (x : Nat) : elN m (x % m.M) = elN m x := by rw [elN, elN, Nat.mod_mul_mod]
theorem zI (m : Md) {x y : Nat} (h : x % m.M = y % m.M) : elN m x = elN m y := by rw [← b0v, h, b0v]
theorem o0q (m : Md) (h : m.Ok) (x : Nat) : x * B64 ^ 4 * m.Ri % m.M = x % m.M := by
 rw [Nat.mul_assoc, Nat.mul_mod, h.inv, Nat.mul_one, Nat.mod_mod]
theorem c0U (a b R Ri M : Nat) : (a * R % M) * (b * R % M) * Ri % M = (a * b * R) * R * Ri % M := by
 rw [← Nat.mod_mul_mod (a * R % M * (b * R % M)), ← Nat.mul_mod, Nat.mod_mul_mod, Nat.mul_mul_mul_comm, ← Nat.mul_assoc (a * b)]
theorem g0a (n R Ri M : Nat) : n * (R * R % M) * Ri % M = n * R * R * Ri % M := by
 rw [← Nat.mod_mul_mod (n * (R * R % M)), Nat.mul_mod_mod, Nat.mod_mul_mod, ← Nat.mul_assoc]
theorem q0y (m : Md) (h : m.Ok) (x y : Nat) : elN m x * elN m y * m.Ri % m.M = elN m (x * y) := by
 unfold elN
 rw [c0U, o0q m h]
theorem q0z (m : Md) (h : m.Ok) (n : Nat) : n * (B64 ^ 4 * B64 ^ 4 % m.M) * m.Ri % m.M = elN m n := by
 rw [g0a, o0q m h, elN]
theorem c0V (m : Md) (h : m.Ok) (x : Nat) : elN m x * 1 * m.Ri % m.M = x % m.M := by
 rw [Nat.mul_one, elN, Nat.mod_mul_mod, o0q m h]
theorem e0u (m : Md) (x y : Nat) : (elN m x + elN m y) % m.M = elN m (x + y) := by
 rw [elN, elN, elN, ← Nat.add_mod, Nat.add_mul]
theorem q0A (m : Md) (h : m.Ok) {x y : Nat} (e : elN m x = elN m y) : x % m.M = y % m.M := by
 rw [← c0V m h x, e, c0V m h y]
theorem m0V (m : Md) (h : m.Ok) (x y : Nat) : (elN m x + m.M - elN m y) % m.M = elN m (x + (m.M - y % m.M)) := by
 have hM : 0 < m.M := by have := h.one; omega
 have hy := zH m h y
 have h1 : (elN m x + m.M - elN m y) + elN m y = elN m x + m.M := by omega
 have hym := Nat.mod_lt y hM
 have e1 : ((elN m x + m.M - elN m y) % m.M + elN m y) % m.M = elN m x % m.M := by
  rw [Nat.mod_add_mod, h1, Nat.add_mod_right]
 have e2 : (elN m (x + (m.M - y % m.M)) + elN m y) % m.M = elN m x % m.M := by
  rw [e0u, Nat.mod_eq_of_lt (zH m h x)]
  refine zI m ?_
  rw [Nat.add_assoc, Nat.add_mod x, Nat.add_comm _ y, ← Nat.mod_add_mod y, show y % m.M + (m.M - y % m.M) = m.M by omega, Nat.mod_self, Nat.add_zero, Nat.mod_mod]
 have a1 := Nat.mod_lt (elN m x + m.M - elN m y) hM
 have a2 := zH m h (x + (m.M - y % m.M))
 generalize (elN m x + m.M - elN m y) % m.M = p at *
 generalize elN m (x + (m.M - y % m.M)) = q at *
 generalize elN m y = r at *
 have e3 : (p + r) % m.M = (q + r) % m.M := by rw [e1, e2]
 have l1 := Nat.div_add_mod (p + r) m.M
 have l2 := Nat.div_add_mod (q + r) m.M
 rcases Nat.lt_or_ge (p + r) m.M with h1 | h1 <;> rcases Nat.lt_or_ge (q + r) m.M with h2 | h2
 ·rw [Nat.mod_eq_of_lt h1, Nat.mod_eq_of_lt h2] at e3; omega
 ·rw [Nat.mod_eq_of_lt h1, Nat.mod_eq_sub_mod h2, Nat.mod_eq_of_lt Ab] at e3; omega
 ·rw [Nat.mod_eq_of_lt h2, Nat.mod_eq_sub_mod h1, Nat.mod_eq_of_lt Ab] at e3; omega
 ·rw [Nat.mod_eq_sub_mod h1, Nat.mod_eq_sub_mod h2, Nat.mod_eq_of_lt Ab, Nat.mod_eq_of_lt Ab] at e3; omega
theorem i0g (a b : Nat) (ha : a < B64 ^ 4) (hb : b < B64 ^ 4) : dG a b 4 = lw (a + b) 4 := by
 rw [k0E a b 4 ha hb]
 unfold lw
 have h0 := eR 4
 have : (a + b) / B64 ^ 4 < 2 := Nat.div_lt_of_lt_mul Ab
 exact (Nat.mod_eq_of_lt (Nat.lt_trans this Ac)).symm
theorem b0w (a b M : Nat) (_ : a < M) (hb : b < M) (hM : M < B64 ^ 4) (h : a < b) : Go.Mv.cw 4 ((a + M - b) % M) = Go.Mv.cw 4 (a + B64 ^ 4 - b + M) := by
 rw [Nat.mod_eq_of_lt Ab, ← Go.Mv.cw_mod 4 (a + B64 ^ 4 - b + M)]
 rw [show a + B64 ^ 4 - b + M = (a + M - b) + B64 ^ 4 by omega, Nat.add_mod_right, Go.Mv.cw_mod]
theorem b0x (a b M : Nat) (ha : a < M) (hb : b < M) (h : ¬ a < b) : Go.Mv.cw 4 ((a + M - b) % M) = Go.Mv.cw 4 (a + B64 ^ 4 - b) := by
 have _h := hb
 rw [show a + M - b = (a - b) + M by omega, Nat.add_mod_right, Nat.mod_eq_of_lt Ab, ← Go.Mv.cw_mod 4 (a + B64 ^ 4 - b), show a + B64 ^ 4 - b = (a - b) + B64 ^ 4 by omega, Nat.add_mod_right, Go.Mv.cw_mod]
end Mvp
namespace Go.Mv
open Go.RowKit
section
variable {P : Program} {ops : Array Oper} {md : Region.Mode} {Q : Exit → Act → World → Prop} {S : World → Prop} {m : Nat}
def wpP (P : Program) (md : Region.Mode) (ops : Array Oper) (Q : Exit → Act → World → Prop) (S : World → Prop) (m : Nat) : Nat → Array Bool → Act → World → Prop
 | 0, listed, a, w => Region.ready md ops listed = [] ∧ Q .normal a w
 | f + 1, listed, a, w => (Region.ready md ops listed = [] → Q .normal a w) ∧
  ∀ i ∈ Region.ready md ops listed, wpOp P ops Q i (fun a' w' => (listed.getD m true = false → i ≠ m → S w') ∧ wpP P md ops Q S m f (listed.setIfInBounds i true) a' w') a w
theorem jC : ∀ (f : Nat) (listed : Array Bool) (a : Act) (w : World), wpP P md ops Q S m f listed a w → wpAny P md ops Q f listed a w
 | 0, _, _, _, h => h
 | f + 1, _, _, _, h => ⟨h.1, fun i hi => wpOp_mono (fun a' w' h' => jC f _ a' w' h'.2) (h.2 i hi)⟩
structure Cl (md : Region.Mode) (ops : Array Oper) (listed : Array Bool) : Prop where
 size : listed.size = ops.size
 closed : ∀ j oj, ops[j]? = some oj → listed.getD j false = true → ∀ e ∈ oj.after, Region.binds md e = true → listed.getD e.on false = true
theorem Cl.set {i : Nat} {listed : Array Bool} (inv : Cl md ops listed) (hi : i ∈ Region.ready md ops listed) : Cl md ops (listed.setIfInBounds i true) := by
 obtain ⟨_, oi, hoi, hall⟩ := mem_ready.1 hi
 refine ⟨by simp [inv.size], fun j oj hj hl e he hb => ?_⟩
 by_cases hij : i = j
 ·subst hij
  have : oj = oi := Option.some.inj (hj.symm.trans hoi)
  subst this
  exact getD_set_true (hall e he hb)
 ·rw [getD_set_ne false hij] at hl
  exact getD_set_true (inv.closed j oj hj hl e he hb)
def k0Y (md : Region.Mode) (ops : Array Oper) (m : Nat) : Nat → Nat → Bool
 | 0, _ => false
 | f + 1, i => (List.range ops.size).any fun j => Region.waitsFor md ops j i && (decide (j = m) || k0Y md ops m f j)
theorem mK {listed : Array Bool} (inv : Cl md ops listed) : ∀ (f i : Nat), k0Y md ops m f i = true → listed.getD i true = false → m ∉ Region.ready md ops listed
 | 0, i, h, _ => by cases h
 | f + 1, i, h, hun => by
  intro hr
  obtain ⟨j, hj, hj2⟩ := List.any_eq_true.1 h
  simp only [Bool.and_eq_true, Bool.or_eq_true, decide_eq_true_eq] at hj2
  obtain ⟨oj, hoj, e, he, hb, hon⟩ := Region.waitsFor_spec hj2.1
  rcases hj2.2 with rfl | hja
  ·obtain ⟨-, om, hom, hall⟩ := mem_ready.1 hr
   have : oj = om := Option.some.inj (hoj.symm.trans hom)
   subst this
   have h2 := hall e he hb
   rw [hon, getD_both hun] at h2
   cases h2
  ·cases hl : listed.getD j false with
   | true =>
    have h2 := inv.closed j oj hoj hl e he hb
    rw [hon, getD_both hun] at h2
    cases h2
   | false =>
    have hjs : j < listed.size := by rw [inv.size]; exact (Array.getElem?_eq_some_iff.1 hoj).1
    exact mK inv f j hja (getD_in hjs hl) hr
theorem pH {i : Nat} {oi : Oper} {v : Value} (hi : ops[i]? = some oi) (hsel : ∀ (j : Nat) (o : Oper) cs b, ops[j]? = some o → o.op ≠ .select cs b)
  (hQ : ∀ c a w, Q (.panic c) (a.put oi.dst v) w → Q (.panic c) a w) (him : i ≠ m) (hm : m < ops.size) :
  ∀ (f : Nat) (listed : Array Bool) (a : Act) (w : World), Cl md ops listed →
   (∀ j oj, ops[j]? = some oj → j ≠ i → listed.getD j true = false → (∀ e ∈ oj.after, Region.binds md e = true → e.on ≠ i) → oi.apart ops oj = true) →
   i ∈ Region.ready md ops listed → YieldsIf P ops (fun _ => True) oi v a → (listed.getD m true = false → S w) →
   wpP P md ops Q S m f (listed.setIfInBounds i true) (a.put oi.dst v) w → wpP P md ops Q S m (f + 1) listed a w := by
 intro f
 induction f with
 | zero =>
  intro listed a w inv _ hr hy hS H
  refine ⟨fun h => (by rw [h] at hr; cases hr), fun j hj => ?_⟩
  by_cases hji : j = i
  ·subst hji; exact hy.wpOp hi trivial ⟨fun h _ => hS h, H⟩
  ·have := ready_mono hj hji
   rw [H.1] at this
   cases this
 | succ f ih =>
  intro listed a w inv hfree hr hy hS H
  have hun := (mem_ready.1 hr).1
  refine ⟨fun h => (by rw [h] at hr; cases hr), fun j hj => ?_⟩
  by_cases hji : j = i
  ·subst hji; exact hy.wpOp hi trivial ⟨fun h _ => hS h, H⟩
  ·have h1 := H.2 j (ready_mono hj hji)
   obtain ⟨hjun, oj, hoj, hall⟩ := mem_ready.1 hj
   have hnot : ∀ e ∈ oj.after, Region.binds md e = true → e.on ≠ i := fun e he hb heq => by
    have h1 := hall e he hb
    rw [heq, getD_both hun] at h1
    cases h1
   have h2 := wpOp_putIf hoj (hfree j oj hoj hji hjun hnot) (fun cs b => hsel i oi cs b hi) (fun cs b => hsel j oj cs b hoj) hQ hy h1
   have hfree' : ∀ k ok, ops[k]? = some ok → k ≠ i → (listed.setIfInBounds j true).getD k true = false →
     (∀ e ∈ ok.after, Region.binds md e = true → e.on ≠ i) → oi.apart ops ok = true := fun k ok hk hki hun hno => by
    refine hfree k ok hk hki ?_ hno
    by_cases hjk : j = k
    ·subst hjk; exact hjun
    ·rw [getD_set_ne true hjk] at hun; exact hun
   refine wpOp_mono (fun a' w' h3 => ?_) h2
   have hS' : listed.getD m true = false → j ≠ m → S w' := fun hml hjm => h3.2.1 (by rw [getD_set_ne true him]; exact hml) hjm
   refine ⟨hS', ih (listed.setIfInBounds j true) a' w' (inv.set hj) hfree' (ready_mono hr (Ne.symm hji)) h3.1 (fun hml => ?_) ?_⟩
   ·by_cases hjm : j = m
    ·subst hjm
     have : (listed.setIfInBounds j true).getD j true = true := by
      have hs : j < listed.size := by rw [inv.size]; exact hm
      simp [hs]
     rw [this] at hml; cases hml
    ·exact hS' (by rwa [getD_set_ne true hjm] at hml) hjm
   ·rw [Array.setIfInBounds_comm _ _ hji]
    exact h3.2.2
theorem uG {i af : Nat} {oi : Oper} {v : Value} (hi : ops[i]? = some oi) (hsel : ∀ (j : Nat) (o : Oper) cs b, ops[j]? = some o → o.op ≠ .select cs b)
  (hQ : ∀ c a w, Q (.panic c) (a.put oi.dst v) w → Q (.panic c) a w) (him : i ≠ m) (hanc : k0Y md ops m af i = true) :
  ∀ (f : Nat) (listed : Array Bool) (a : Act) (w : World), Cl md ops listed → listed.getD m true = false →
   (∀ j oj, ops[j]? = some oj → j ≠ i → listed.getD j true = false → (∀ e ∈ oj.after, Region.binds md e = true → e.on ≠ i) → oi.apart ops oj = true) →
   i ∈ Region.ready md ops listed → YieldsIf P ops S oi v a → S w →
   wpP P md ops Q S m f (listed.setIfInBounds i true) (a.put oi.dst v) w → wpP P md ops Q S m (f + 1) listed a w := by
 intro f
 induction f with
 | zero =>
  intro listed a w inv _ _ hr hy hS H
  refine ⟨fun h => (by rw [h] at hr; cases hr), fun j hj => ?_⟩
  by_cases hji : j = i
  ·subst hji; exact hy.wpOp hi hS ⟨fun _ _ => hS, H⟩
  ·have := ready_mono hj hji
   rw [H.1] at this
   cases this
 | succ f ih =>
  intro listed a w inv hml hfree hr hy hS H
  have hun := (mem_ready.1 hr).1
  refine ⟨fun h => (by rw [h] at hr; cases hr), fun j hj => ?_⟩
  by_cases hji : j = i
  ·subst hji; exact hy.wpOp hi hS ⟨fun _ _ => hS, H⟩
  ·have hjm : j ≠ m := fun e => mK inv af i hanc hun (e ▸ hj)
   have h1 := H.2 j (ready_mono hj hji)
   obtain ⟨hjun, oj, hoj, hall⟩ := mem_ready.1 hj
   have hnot : ∀ e ∈ oj.after, Region.binds md e = true → e.on ≠ i := fun e he hb heq => by
    have h1 := hall e he hb
    rw [heq, getD_both hun] at h1
    cases h1
   have h2 := wpOp_putIf hoj (hfree j oj hoj hji hjun hnot) (fun cs b => hsel i oi cs b hi) (fun cs b => hsel j oj cs b hoj) hQ hy h1
   have hfree' : ∀ k ok, ops[k]? = some ok → k ≠ i → (listed.setIfInBounds j true).getD k true = false →
     (∀ e ∈ ok.after, Region.binds md e = true → e.on ≠ i) → oi.apart ops ok = true := fun k ok hk hki hun hno => by
    refine hfree k ok hk hki ?_ hno
    by_cases hjk : j = k
    ·subst hjk; exact hjun
    ·rw [getD_set_ne true hjk] at hun; exact hun
   refine wpOp_mono (fun a' w' h3 => ?_) h2
   have hS' : S w' := h3.2.1 (by rw [getD_set_ne true him]; exact hml) hjm
   refine ⟨fun _ _ => hS', ih (listed.setIfInBounds j true) a' w' (inv.set hj) (by rw [getD_set_ne true hjm]; exact hml) hfree' (ready_mono hr (Ne.symm hji)) h3.1 hS' ?_⟩
   rw [Array.setIfInBounds_comm _ _ hji]
   exact h3.2.2
inductive Pl where
 | nil
 | w (i : Nat) (s : Pl)
 | t (i : Nat) (s : Pl)
 | r (i : Nat) (s : Pl)
 | m (i : Nat) (s : Pl)
 | b (i j : Nat) (s u : Pl)
 | c (i j k : Nat) (s u v : Pl)
def Pl.len : Pl → Nat
 | .nil => 0
 | .w _ s => s.len + 1
 | .t _ s => s.len + 1
 | .r _ s => s.len + 1
 | .m _ s => s.len + 1
 | .b _ _ s _ => s.len + 1
 | .c _ _ _ s _ _ => s.len + 1
def dQ (P : Program) (ops : Array Oper) (Q : Exit → Act → World → Prop) (S : World → Prop) : Pl → Act → World → Prop
 | .nil, a, w => Q .normal a w
 | .w i s, a, w => ∃ o v, ops[i]? = some o ∧ YieldsIf P ops (fun _ => True) o v a ∧ dQ P ops Q S s (a.put o.dst v) w
 | .t i s, a, w => ∃ o v, ops[i]? = some o ∧ YieldsIf P ops S o v a ∧ dQ P ops Q S s (a.put o.dst v) w
 | .r i s, a, w => ∃ o, ops[i]? = some o ∧ o.guard = none ∧ o.wp P a w (fun a' w' => S w' ∧ dQ P ops Q S s a' w') Q
 | .m i s, a, w => ∃ o, ops[i]? = some o ∧ o.guard = none ∧ o.wp P a w (fun a' w' => dQ P ops Q S s a' w') Q
 | .b i j s u, a, w => (∃ o, ops[i]? = some o ∧ o.guard = none ∧ o.wp P a w (fun a' w' => S w' ∧ dQ P ops Q S s a' w') Q) ∧
   (∃ o, ops[j]? = some o ∧ o.guard = none ∧ o.wp P a w (fun a' w' => S w' ∧ dQ P ops Q S u a' w') Q)
 | .c i j k s u v, a, w => (∃ o, ops[i]? = some o ∧ o.guard = none ∧ o.wp P a w (fun a' w' => S w' ∧ dQ P ops Q S s a' w') Q) ∧
   (∃ o, ops[j]? = some o ∧ o.guard = none ∧ o.wp P a w (fun a' w' => S w' ∧ dQ P ops Q S u a' w') Q) ∧
   (∃ o, ops[k]? = some o ∧ o.guard = none ∧ o.wp P a w (fun a' w' => S w' ∧ dQ P ops Q S v a' w') Q)
def eO (md : Region.Mode) (ops : Array Oper) (m : Nat) : Pl → Array Bool → Bool
 | .nil, listed => (Region.ready md ops listed).isEmpty
 | .w i s, listed => decide (i ≠ m) && (Region.ready md ops listed).contains i && Region.free md ops listed i && eO md ops m s (listed.setIfInBounds i true)
 | .t i s, listed => decide (i ≠ m) && decide (listed.getD m true = false) && (Region.ready md ops listed).contains i && Region.free md ops listed i && k0Y md ops m ops.size i && eO md ops m s (listed.setIfInBounds i true)
 | .r i s, listed => decide (i ≠ m) && decide (listed.getD m true = false) && decide (Region.ready md ops listed = [i]) && eO md ops m s (listed.setIfInBounds i true)
 | .m i s, listed => (decide (i = m) || decide (listed.getD m true = true)) && decide (Region.ready md ops listed = [i]) && eO md ops m s (listed.setIfInBounds i true)
 | .b i j s u, listed => decide (i ≠ m) && decide (j ≠ m) && decide (listed.getD m true = false) && decide (s.len = u.len) && decide (Region.ready md ops listed = [i, j]) && eO md ops m s (listed.setIfInBounds i true) && eO md ops m u (listed.setIfInBounds j true)
 | .c i j k s u v, listed => decide (i ≠ m) && decide (j ≠ m) && decide (k ≠ m) && decide (listed.getD m true = false) && decide (s.len = u.len) && decide (s.len = v.len) && decide (Region.ready md ops listed = [i, j, k]) && eO md ops m s (listed.setIfInBounds i true) && eO md ops m u (listed.setIfInBounds j true) && eO md ops m v (listed.setIfInBounds k true)
theorem iV {i : Nat} {o : Oper} {a : Act} {w : World} {K : Act → World → Prop} (ho : ops[i]? = some o) (hg : o.guard = none) (h : o.wp P a w K Q) : wpOp P ops Q i K a w := by
 unfold wpOp
 simp only [ho]
 rw [if_pos Ax]
 exact .inl h
theorem eE {listed : Array Bool} {i : Nat} (h : i < listed.size) : (listed.setIfInBounds i true).getD i true = true := by simp [h]
theorem dJ (hsel : Region.noSelect ops = true) (hm : m < ops.size) (hQ : ∀ c (d : Option Tmp) v a w, Q (.panic c) (Act.put a d v) w → Q (.panic c) a w) :
  ∀ (s : Pl) (listed : Array Bool) (a : Act) (w : World), Cl md ops listed → eO md ops m s listed = true → (listed.getD m true = false → S w) → dQ P ops Q S s a w → wpP P md ops Q S m s.len listed a w
 | .nil, listed, a, w, _, hB, _, h => ⟨by simpa [eO] using hB, h⟩
 | .w i r, listed, a, w, inv, hB, hS, h => by
  obtain ⟨o, v, ho, hy, hK⟩ := h
  simp only [eO, Bool.and_eq_true, decide_eq_true_eq] at hB
  obtain ⟨⟨⟨him, hr⟩, hf⟩, hB'⟩ := hB
  have hr' : i ∈ Region.ready md ops listed := by simpa using hr
  exact pH ho (Region.noSelect_spec hsel) (fun c a w => hQ c o.dst v a w) him hm r.len listed a w inv (Region.free_spec ho hf) hr' hy hS
   (dJ hsel hm hQ r _ _ w (inv.set hr') hB' (fun h => hS (by rwa [getD_set_ne true him] at h)) hK)
 | .t i r, listed, a, w, inv, hB, hS, h => by
  obtain ⟨o, v, ho, hy, hK⟩ := h
  simp only [eO, Bool.and_eq_true, decide_eq_true_eq] at hB
  obtain ⟨⟨⟨⟨⟨him, hml⟩, hr⟩, hf⟩, han⟩, hB'⟩ := hB
  have hr' : i ∈ Region.ready md ops listed := by simpa using hr
  exact uG ho (Region.noSelect_spec hsel) (fun c a w => hQ c o.dst v a w) him han r.len listed a w inv hml (Region.free_spec ho hf) hr' hy (hS hml)
   (dJ hsel hm hQ r _ _ w (inv.set hr') hB' (fun _ => hS hml) hK)
 | .r i r, listed, a, w, inv, hB, hS, h => by
  obtain ⟨o, ho, hg, hK⟩ := h
  simp only [eO, Bool.and_eq_true, decide_eq_true_eq] at hB
  obtain ⟨⟨⟨him, hml⟩, hr⟩, hB'⟩ := hB
  have hr' : i ∈ Region.ready md ops listed := by rw [hr]; simp
  refine ⟨fun h0 => (by rw [hr] at h0; cases h0), fun j hj => ?_⟩
  rw [hr] at hj
  have hj' : j = i := by simpa using hj
  subst hj'
  exact iV ho hg (Oper.wp_mono (fun a' w' h' => ⟨fun _ _ => h'.1, dJ hsel hm hQ r _ a' w' (inv.set hr') hB' (fun _ => h'.1) h'.2⟩) hK)
 | .m i r, listed, a, w, inv, hB, hS, h => by
  obtain ⟨o, ho, hg, hK⟩ := h
  simp only [eO, Bool.and_eq_true, Bool.or_eq_true, decide_eq_true_eq] at hB
  obtain ⟨⟨him, hr⟩, hB'⟩ := hB
  have hr' : i ∈ Region.ready md ops listed := by rw [hr]; simp
  refine ⟨fun h0 => (by rw [hr] at h0; cases h0), fun j hj => ?_⟩
  rw [hr] at hj
  have hj' : j = i := by simpa using hj
  subst hj'
  have hml : (listed.setIfInBounds j true).getD m true = true := by
   rcases him with e | e
   ·subst e; exact eE (by rw [inv.size]; exact hm)
   ·by_cases e2 : j = m
    ·subst e2; exact eE (by rw [inv.size]; exact hm)
    ·rw [getD_set_ne true e2]; exact e
  refine iV ho hg (Oper.wp_mono (fun a' w' h' => ⟨fun h1 h2 => ?_, dJ hsel hm hQ r _ a' w' (inv.set hr') hB' (fun h1 => by rw [hml] at h1; cases h1) h'⟩) hK)
  rcases him with e | e
  ·exact absurd e h2
  ·rw [e] at h1; cases h1
 | .b i j r u, listed, a, w, inv, hB, hS, h => by
  obtain ⟨⟨o, ho, hg, hK⟩, ⟨o2, ho2, hg2, hK2⟩⟩ := h
  simp only [eO, Bool.and_eq_true, decide_eq_true_eq] at hB
  obtain ⟨⟨⟨⟨⟨⟨him, hjm⟩, hml⟩, hlen⟩, hr⟩, hB1⟩, hB2⟩ := hB
  have hri : i ∈ Region.ready md ops listed := by rw [hr]; simp
  have hrj : j ∈ Region.ready md ops listed := by rw [hr]; simp
  refine ⟨fun h0 => (by rw [hr] at h0; cases h0), fun k hk => ?_⟩
  rw [hr] at hk
  have hk' : k = i ∨ k = j := by simpa using hk
  rcases hk' with e | e
  ·subst e
   exact iV ho hg (Oper.wp_mono (fun a' w' h' => ⟨fun _ _ => h'.1, dJ hsel hm hQ r _ a' w' (inv.set hri) hB1 (fun _ => h'.1) h'.2⟩) hK)
  ·subst e
   rw [hlen]
   exact iV ho2 hg2 (Oper.wp_mono (fun a' w' h' => ⟨fun _ _ => h'.1, dJ hsel hm hQ u _ a' w' (inv.set hrj) hB2 (fun _ => h'.1) h'.2⟩) hK2)
 | .c i j k r u v, listed, a, w, inv, hB, hS, h => by
  obtain ⟨⟨o, ho, hg, hK⟩, ⟨o2, ho2, hg2, hK2⟩, ⟨o3, ho3, hg3, hK3⟩⟩ := h
  simp only [eO, Bool.and_eq_true, decide_eq_true_eq] at hB
  obtain ⟨⟨⟨⟨⟨⟨⟨⟨⟨him, hjm⟩, hkm⟩, hml⟩, hlen⟩, hlen2⟩, hr⟩, hB1⟩, hB2⟩, hB3⟩ := hB
  have hri : i ∈ Region.ready md ops listed := by rw [hr]; simp
  have hrj : j ∈ Region.ready md ops listed := by rw [hr]; simp
  have hrk : k ∈ Region.ready md ops listed := by rw [hr]; simp
  refine ⟨fun h0 => (by rw [hr] at h0; cases h0), fun q hk => ?_⟩
  rw [hr] at hk
  have hk' : q = i ∨ q = j ∨ q = k := by simpa using hk
  rcases hk' with e | e | e
  ·subst e
   exact iV ho hg (Oper.wp_mono (fun a' w' h' => ⟨fun _ _ => h'.1, dJ hsel hm hQ r _ a' w' (inv.set hri) hB1 (fun _ => h'.1) h'.2⟩) hK)
  ·subst e
   show wpOp P ops Q _ (fun a' w' => _ ∧ wpP P md ops Q S m r.len _ a' w') a w
   rw [hlen]
   exact iV ho2 hg2 (Oper.wp_mono (fun a' w' h' => ⟨fun _ _ => h'.1, dJ hsel hm hQ u _ a' w' (inv.set hrj) hB2 (fun _ => h'.1) h'.2⟩) hK2)
  ·subst e
   show wpOp P ops Q _ (fun a' w' => _ ∧ wpP P md ops Q S m r.len _ a' w') a w
   rw [hlen2]
   exact iV ho3 hg3 (Oper.wp_mono (fun a' w' h' => ⟨fun _ _ => h'.1, dJ hsel hm hQ v _ a' w' (inv.set hrk) hB3 (fun _ => h'.1) h'.2⟩) hK3)
def zJ (ops : Array Oper) (m : Nat) (s : Pl) : Bool :=
 Region.noSelect ops && decide (m < ops.size) && decide (s.len = ops.size) && eO .any ops m s (Array.replicate ops.size false)
theorem aP {id : Nat} {a : Act} {w : World} {l : List Oper} (S : World → Prop) (m : Nat) (s : Pl) (hm : P.follows .mixedOrders = true) (hB : zJ l.toArray m s = true)
  (hS : S w.drew) (hQ : ∀ c (d : Option Tmp) v a w, Q (.panic c) (Act.put a d v) w → Q (.panic c) a w)
  (h : dQ P l.toArray Q S s a w.drew) : (Code.region id l.toArray true).wp P Q a w := by
 simp only [zJ, Bool.and_eq_true, decide_eq_true_eq] at hB
 obtain ⟨⟨⟨hsel, hms⟩, hlen⟩, hseq⟩ := hB
 have inv0 : Cl .any l.toArray (Array.replicate l.toArray.size false) :=
  ⟨by simp, fun j oj _ hl => (by rw [getD_replicate_false] at hl; cases hl)⟩
 have H := dJ (md := .any) hsel hms hQ s _ a w.drew inv0 hseq (fun _ => hS) h
 rw [hlen] at H
 exact wp_region_any hm (jC _ _ _ _ H)
variable {l : List Oper} {i j : Nat} {s u : Pl} {a : Act} {w : World} {o o2 : Oper}
theorem aH (h : Q .normal a w) : dQ P ops Q S .nil a w := h
theorem aJ (ho : l[i]? = some o) (hg : o.guard = none) {v : Value} (hv : ∀ wx, (execOp a.eval o).run P wx = .ok (.value v) wx) (h : dQ P l.toArray Q S s (a.put o.dst v) w) : dQ P l.toArray Q S (.w i s) a w :=
 ⟨o, v, by simpa using ho, .inl ⟨by simp [Region.wanted, hg], fun wx _ => hv wx⟩, h⟩
theorem jY (ho : l[i]? = some o) (hg : o.guard = none) {v : Value} (hv : ∀ wx, S wx → (execOp a.eval o).run P wx = .ok (.value v) wx) (h : dQ P l.toArray Q S s (a.put o.dst v) w) : dQ P l.toArray Q S (.t i s) a w :=
 ⟨o, v, by simpa using ho, .inl ⟨by simp [Region.wanted, hg], hv⟩, h⟩
theorem aV (ho : l[i]? = some o) (hg : o.guard = none) {ty : TypeId} {x : Operand} (hop : o.op = .load ty x) {g p : Nat} (hx : a.eval x = .pointer (some ⟨g, p, none⟩)) (cs : List Value) (hS : ∀ wx, S wx → wx.rangeAt g p cs)
  {d : TypeDesc} (hu : P.underlying ty = some d) (hd : d.isRow = true) (hi : (P.info? ty).map (·.size) = some cs.length) (h : dQ P l.toArray Q S s (a.put o.dst (.agg cs.toArray)) w) : dQ P l.toArray Q S (.t i s) a w :=
 ⟨o, _, by simpa using ho, yieldsIf_load_mid Ax ty x hop g p hx cs d hS hu hd hi, h⟩
theorem bC (ho : l[i]? = some o) (hg : o.guard = none) (h : o.wp P a w (fun a' w' => S w' ∧ dQ P l.toArray Q S s a' w') Q) : dQ P l.toArray Q S (.r i s) a w :=
 ⟨o, by simpa using ho, hg, h⟩
theorem aU (ho : l[i]? = some o) (hg : o.guard = none) (h : o.wp P a w (fun a' w' => dQ P l.toArray Q S s a' w') Q) : dQ P l.toArray Q S (.m i s) a w :=
 ⟨o, by simpa using ho, hg, h⟩
theorem i0h {C F : Nat → World → Prop} (ho : l[i]? = some o) (hg : o.guard = none) (ho2 : l[j]? = some o2) (hg2 : o2.guard = none)
  (h1 : (∀ g w', C g w' → F g w') → o.wp P a w (fun a' w' => S w' ∧ dQ P l.toArray Q S s a' w') Q)
  (h2 : (∀ g w', C g w' → F g w') → o2.wp P a w (fun a' w' => S w' ∧ dQ P l.toArray Q S u a' w') Q)
  (h : ∀ g w', C g w' → F g w') : dQ P l.toArray Q S (.b i j s u) a w :=
 ⟨⟨o, by simpa using ho, hg, h1 h⟩, ⟨o2, by simpa using ho2, hg2, h2 h⟩⟩
theorem mL {G : Prop} {C F : Nat → World → Prop} (h1 : (∀ g w', C g w' → F g w') → G) (h : ∀ g w', C g w' → F g w') : G := h1 h
theorem lH (ho : l[i]? = some o) (hg : o.guard = none) (ho2 : l[j]? = some o2) (hg2 : o2.guard = none)
  (h1 : o.wp P a w (fun a' w' => S w' ∧ dQ P l.toArray Q S s a' w') Q)
  (h2 : o2.wp P a w (fun a' w' => S w' ∧ dQ P l.toArray Q S u a' w') Q) : dQ P l.toArray Q S (.b i j s u) a w :=
 ⟨⟨o, by simpa using ho, hg, h1⟩, ⟨o2, by simpa using ho2, hg2, h2⟩⟩
end
end Go.Mv
namespace Go.Proofs.YtemcankmggmgoaaGreat
section
open Go.RowKit Go.Mv Mvp
attribute [local irreducible] bI lw mix cw cT dG cS bQ aO beN dO cI dI bM bT elN
theorem lI (m : Md) (gp : Nat) (w : World) (hok : m.Ok) (hpm : Has w gp (mdL m) 187)  :
  Calls prog 148 #[.pointer (some ⟨gp, 0, none⟩)] w fun e w' => e = .returned (i4 (elN m 1)) ∧ Fr Nob w w' := by
 have HOK := qH hok
 have HPM := qH hpm
 clear hok hpm
 have st0 := St.start Nob w
 go_enter func148, ntmps148
 go_wp2_with (with_reducible refine AA 2 ?_)
 refine aA st0 rfl rfl (z := zAd) Aa (cw 4 0) Af ?_
 intro g2 w1 st1
 clear st0
 go_wp2_with (with_reducible refine AA 6 ?_)
 refine fA rfl rfl underlying111 rfl (HPM.out.keep st1.fr id) (cw 4 (B64 ^ 4 % m.M)) (q0p m) Ag ?_
 go_wp2_with (with_reducible refine AB ?_)
 refine aB st1 0 rfl rfl rfl rfl rfl Ah Ag (aF _ _) ?_
 intro w2 st2
 clear st1
 have hr := st2.at 0 rfl
 have hfr := st2.fr
 clear st2
 go_wp2_with fail
 exact bodyPost_ret (aX rfl rfl hr underlying66 Ag) rfl ⟨by rw [← q0x m]; rfl, hfr⟩
theorem k0Z (a : Nat) (w : World) :
  Calls prog 172 #[i4 a] w fun e w' => e = .returned (i4 a) ∧ Fr Nob w w' := by
 have st0 := St.start Nob w
 go_enter func172, ntmps172
 go_wp2_with (with_reducible refine AA 1 ?_)
 refine aL st0 rfl rfl rfl (cw 4 a) rfl ?_
 intro g1 w1 st1
 clear st0
 go_wp2_with (with_reducible refine AA 2 ?_)
 refine aA st1 rfl rfl (z := zAd) Aa (cw 4 0) Af ?_
 intro g2 w2 st2
 clear st1
 go_wp2_with (with_reducible refine AA 3 ?_)
 refine aI st2 0 rfl rfl rfl underlying66 rfl Ag ?_
 go_wp2_with (with_reducible refine AB ?_)
 refine aB st2 1 rfl rfl rfl rfl rfl Ah Ag (aF _ _) ?_
 intro w3 st3
 clear st2
 have hr := st3.at 1 rfl
 have hfr := st3.fr
 clear st3
 go_wp2_with fail
 exact bodyPost_ret (aX rfl rfl hr underlying111 Ag) rfl ⟨rfl, hfr⟩
theorem pI (a b : Nat) (w : World) (ha : a < B64 ^ 4) (hb : b < B64 ^ 4) :
  Calls prog 145 #[i4 a, i4 b] w fun e w' => e = .returned (.bool (decide (a < b))) ∧ Fr Nob w w' := by
 have HA := qH ha
 have HB := qH hb
 clear ha hb
 have st0 := St.start Nob w
 go_enter func145, ntmps145
 go_wp2_with (with_reducible refine AA 2 ?_)
 refine aL st0 rfl rfl rfl (cw 4 a) rfl ?_
 intro g2 w1 st1
 clear st0
 go_wp2_with (with_reducible refine AA 3 ?_)
 refine aL st1 rfl rfl rfl (cw 4 b) rfl ?_
 intro g3 w2 st2
 clear st1
 have HCS := qH (nC a b 4 HA.out HB.out)
 go_wp2_with (with_reducible refine AA 8 ?_)
 refine aI st2 0 rfl rfl rfl underlying111 rfl Ag ?_
 go_wp2_with (with_reducible refine AA 9 ?_)
 refine aI st2 1 rfl rfl rfl underlying111 rfl Ag ?_
 go_wp2_with fail
 refine (jH a b _ HB.out).mono ?_
 rintro e' w3 ⟨rfl, hf3⟩
 have st3 := st2.keep hf3
 clear st2 hf3
 go_wp2_with (with_reducible refine AA 5 ?_)
 refine aA st3 rfl rfl (z := zAd) Aa (cw 4 0) Af ?_
 intro g5 w4 st4
 clear st3
 go_wp2_with (with_reducible refine AB ?_)
 refine aB st4 2 rfl rfl rfl rfl rfl Ah Ag (aF _ _) ?_
 intro w5 st5
 clear st4
 have hfr := st5.fr
 clear st5
 have hcs := HCS.out
 clear HCS
 by_cases hlt : a < b
 ·rw [if_pos hlt] at hcs
  rw [hcs]
  have HLT := qH hlt
  clear hlt hcs
  go_wp2_with fail
  go_ret
  exact ⟨by rw [decide_eq_true HLT.out]; rfl, hfr⟩
 ·rw [if_neg hlt] at hcs
  rw [hcs]
  have HLT := qH hlt
  clear hlt hcs
  go_wp2_with fail
  go_ret
  exact ⟨by rw [decide_eq_false HLT.out]; rfl, hfr⟩
theorem kF (m : Md) (gp : Nat) (w : World) (hok : m.Ok) (hpm : Has w gp (mdL m) 187) (n : Nat) (hn : n < B64 ^ 4) :
  Calls prog 147 #[.pointer (some ⟨gp, 0, none⟩), i4 n] w fun e w' => e = .returned (i4 (elN m n)) ∧ Fr Nob w w' := by
 have HOK := qH hok
 have HPM := qH hpm
 clear hok hpm
 have HN := qH hn
 clear hn
 have st0 := St.start Nob w
 go_enter func147, ntmps147
 go_wp2_with (with_reducible refine AA 3 ?_)
 refine aL st0 rfl rfl rfl (cw 4 n) rfl ?_
 intro g3 w1 st1
 clear st0
 go_wp2_with (with_reducible refine AA 4 ?_)
 refine aA st1 rfl rfl (z := zAd) Aa (cw 4 0) Af ?_
 intro g4 w2 st2
 clear st1
 go_wp2_with fail
 refine wp_region_noPanic ?_
 refine aP (fun wx => St Nob w wx [(g3, cw 4 n, 111), (g4, cw 4 0, 66)]) 7 (.w 0 (.t 1 (.w 2 (.w 3 (.w 4 (.t 5 (.r 6 (.m 7 .nil)))))))) Aa Aa st2.drew (fun _ _ _ _ _ h => h) ?_
 have hd2 := st2.drew
 clear st2
 refine aJ rfl rfl apW ?_
 try simp only [J]
 refine aV rfl rfl rfl rfl (cw 4 n) (fun wx hS => St.rangeL hS 0 rfl 0 _ dZl) underlying111 rfl Ag ?_
 try simp only [J]
 refine aJ rfl rfl apW ?_
 try simp only [J]
 refine aJ rfl rfl apW ?_
 try simp only [J]
 refine aJ rfl rfl apW ?_
 try simp only [J]
 refine aV rfl rfl rfl rfl (cw 4 (B64 ^ 4 * B64 ^ 4 % m.M)) (fun wx hS => (HPM.out.keep (St.fr hS) id).range 9 _ (q0q m)) underlying111 rfl Ag ?_
 try simp only [J]
 refine bC rfl rfl ?_
 go_simp
 refine (sH m gp n (B64 ^ 4 * B64 ^ 4 % m.M) _ HOK.out (HPM.out.keep hd2.fr id) HN.out (Nat.mod_lt _ Bn)).mono ?_
 rintro e' w3 ⟨rfl, hf3⟩
 have st3 := hd2.keep hf3
 clear hf3
 clear hd2
 refine ⟨st3, ?_⟩
 try simp only [J]
 refine aU rfl rfl ?_
 refine aG st3 1 rfl rfl rfl rfl Ah Ag (aF _ _) ?_
 intro w4 st4
 clear st3
 try simp only [Act.put]
 refine aH ?_
 refine NoPanic.normal ?_
 have hr := st4.at 1 rfl
 have hfr := st4.fr
 clear st4
 go_wp2_with fail
 exact bodyPost_ret (aX rfl rfl hr underlying66 Ag) rfl ⟨by rw [← q0z m HOK.out n]; rfl, hfr⟩
theorem mM (m : Md) (gp : Nat) (w : World) (hok : m.Ok) (hpm : Has w gp (mdL m) 187) (x : Nat) :
  Calls prog 120 #[.pointer (some ⟨gp, 0, none⟩), i4 (elN m x)] w fun e w' => e = .returned (i4 (x % m.M)) ∧ Fr Nob w w' := by
 have HOK := qH hok
 have HPM := qH hpm
 clear hok hpm
 have hmul := fun wx (h : Has wx gp (mdL m) 187) => sH m gp (elN m x) 1 wx HOK.out h (b0u m HOK.out x) HOK.out.one
 rw [c0V m HOK.out x, ← dY 1 Ac] at hmul
 have HMUL := qH hmul
 clear hmul
 have st0 := St.start Nob w
 go_enter func120, ntmps120
 go_wp2_with (with_reducible refine AA 3 ?_)
 refine aL st0 rfl rfl rfl (cw 4 (elN m x)) rfl ?_
 intro g3 w1 st1
 clear st0
 go_wp2_with (with_reducible refine AA 4 ?_)
 refine aA st1 rfl rfl (z := zAd) Aa (cw 4 0) Af ?_
 intro g4 w2 st2
 clear st1
 go_wp2_with (with_reducible refine AA 6 ?_)
 refine aI st2 0 rfl rfl rfl underlying66 rfl Ag ?_
 go_wp2_with fail
 refine (HMUL.out _ (HPM.out.keep st2.fr id)).mono ?_
 rintro e' w3 ⟨rfl, hf3⟩
 have st3 := st2.keep hf3
 clear st2 hf3
 go_wp2_with fail
 refine (k0Z (x % m.M) _).mono ?_
 rintro e' w4 ⟨rfl, hf4⟩
 have st4 := st3.keep hf4
 clear st3 hf4
 go_wp2_with (with_reducible refine AB ?_)
 refine aB st4 1 rfl rfl rfl rfl rfl Ah Ag (aF _ _) ?_
 intro w5 st5
 clear st4
 have hr := st5.at 1 rfl
 have hfr := st5.fr
 clear st5
 go_wp2_with fail
 exact bodyPost_ret (aX rfl rfl hr underlying111 Ag) rfl ⟨rfl, hfr⟩
theorem pJ (m : Md) (gp : Nat) (w : World) (hok : m.Ok) (hpm : Has w gp (mdL m) 187) (x y : Nat) :
  Calls prog 171 #[.pointer (some ⟨gp, 0, none⟩), i4 (elN m x), i4 (elN m y)] w fun e w' => e = .returned (i4 (elN m (x + y))) ∧ Fr Nob w w' := by
 have HOK := qH hok
 have HPM := qH hpm
 clear hok hpm
 have hx := zH m HOK.out x
 have hy := zH m HOK.out y
 have HCA := qH (i0g (elN m x) (elN m y) (Nat.lt_trans hx HOK.out.lt) (Nat.lt_trans hy HOK.out.lt))
 have HFIN := qH (wZ (elN m x + elN m y) m.M HOK.out.lt Ab)
 have H2 := qH (show (elN m x + elN m y) < 2 * B64 ^ 4 by have := HOK.out.lt; omega)
 clear hx hy
 have st0 := St.start Nob w
 go_enter func171, ntmps171
 go_wp2_with (with_reducible refine AA 4 ?_)
 refine aL st0 rfl rfl rfl (cw 4 (elN m x)) rfl ?_
 intro g4 w1 st1
 clear st0
 go_wp2_with (with_reducible refine AA 5 ?_)
 refine aL st1 rfl rfl rfl (cw 4 (elN m y)) rfl ?_
 intro g5 w2 st2
 clear st1
 go_wp2_with (with_reducible refine AA 6 ?_)
 refine aA st2 rfl rfl (z := zAd) Aa (cw 4 0) Af ?_
 intro g6 w3 st3
 clear st2
 go_wp2_with (with_reducible refine AA 12 ?_)
 refine aI st3 0 rfl rfl rfl underlying66 rfl Ag ?_
 go_wp2_with (with_reducible refine AA 13 ?_)
 refine aI st3 1 rfl rfl rfl underlying66 rfl Ag ?_
 go_wp2_with fail
 refine (pB (elN m x) (elN m y) _).mono ?_
 rintro e' w4 ⟨rfl, hf4⟩
 have st4 := st3.keep hf4
 clear st3 hf4
 go_wp2_with (with_reducible refine AA 7 ?_)
 refine aA st4 rfl rfl (z := zAd) Aa (cw 4 0) Af ?_
 intro g7 w5 st5
 clear st4
 go_wp2_with (with_reducible refine AB ?_)
 refine aB st5 3 rfl rfl rfl rfl rfl Ah Ag (aF _ _) ?_
 intro w6 st6
 clear st5
 go_wp2_with fail
 refine wp_region_noPanic ?_
 refine aP (fun wx => St Nob w wx [(g4, cw 4 (elN m x), 66), (g5, cw 4 (elN m y), 66), (g6, cw 4 0, 66), (g7, cw 4 (elN m x + elN m y), 111)]) 11 (.t 0 (.w 1 (.w 2 (.w 3 (.t 4 (.b 5 9 (.w 6 (.w 7 (.w 8 (.r 9 (.r 10 (.m 11 .nil)))))) (.r 5 (.w 6 (.w 7 (.w 8 (.r 10 (.m 11 .nil)))))))))))) Aa Aa st6.drew (fun _ _ _ _ _ h => h) ?_
 have hd6 := st6.drew
 clear st6
 refine aV rfl rfl rfl rfl (cw 4 (elN m x + elN m y)) (fun wx hS => St.rangeL hS 3 rfl 0 _ dZl) underlying111 rfl Ag ?_
 try simp only [J]
 refine aJ rfl rfl apW ?_
 try simp only [J]
 refine aJ rfl rfl apW ?_
 try simp only [J]
 refine aJ rfl rfl apW ?_
 try simp only [J]
 refine aV rfl rfl rfl rfl (cw 4 m.M) (fun wx hS => (HPM.out.keep (St.fr hS) id).range 0 _ (c0o m)) underlying111 rfl Ag ?_
 try simp only [J]
 refine i0h (C := fun g9 wz => St Nob w wz [(g4, cw 4 (elN m x), 66), (g5, cw 4 (elN m y), 66), (g6, cw 4 0, 66), (g7, cw 4 (elN m x + elN m y), 111), (g9, cw 4 ((elN m x + elN m y) + B64 ^ 4 - m.M), 111)]) (F := ?_) rfl rfl rfl rfl (fun key => ?_) (fun key => ?_) ?_
 rotate_left 1
 ·skip
  go_simp
  refine (jH (elN m x + elN m y) m.M _ HOK.out.lt).mono ?_
  rintro e' w7 ⟨rfl, hf7⟩
  have st7 := hd6.keep hf7
  clear hf7
  refine ⟨st7, ?_⟩
  try simp only [J]
  refine aJ rfl rfl apW ?_
  try simp only [J]
  refine aJ rfl rfl apW ?_
  try simp only [J]
  refine aJ rfl rfl apW ?_
  try simp only [J]
  refine bC rfl rfl ?_
  refine cH st7 rfl (z := zAd) Aa (cw 4 0) Af ?_
  intro g9 w8 st8
  refine ⟨St.less st8 Ae, ?_⟩
  try simp only [J]
  refine bC rfl rfl ?_
  refine aG st8 4 rfl rfl rfl rfl Ah Ag (aF _ _) ?_
  intro w9 st9
  refine ⟨St.less st9 Ae, ?_⟩
  try simp only [Act.put]
  refine aU rfl rfl ?_
  go_simp
  try simp only [J]
  refine aH ?_
  exact key g9 _ st9
 ·skip
  refine cH hd6 rfl (z := zAd) Aa (cw 4 0) Af ?_
  intro g9 w10 st10
  refine ⟨St.less st10 Ae, ?_⟩
  try simp only [J]
  refine bC rfl rfl ?_
  go_simp
  refine (jH (elN m x + elN m y) m.M _ HOK.out.lt).mono ?_
  rintro e' w11 ⟨rfl, hf11⟩
  have st11 := st10.keep hf11
  clear hf11
  refine ⟨St.less st11 Ae, ?_⟩
  try simp only [J]
  refine aJ rfl rfl apW ?_
  try simp only [J]
  refine aJ rfl rfl apW ?_
  try simp only [J]
  refine aJ rfl rfl apW ?_
  try simp only [J]
  refine bC rfl rfl ?_
  refine aG st11 4 rfl rfl rfl rfl Ah Ag (aF _ _) ?_
  intro w12 st12
  refine ⟨St.less st12 Ae, ?_⟩
  try simp only [Act.put]
  refine aU rfl rfl ?_
  go_simp
  try simp only [J]
  refine aH ?_
  exact key g9 _ st12
 intro g9 w13 st13
 have st13 : St Nob w w13 [(g4, cw 4 (elN m x), 66), (g5, cw 4 (elN m y), 66), (g6, cw 4 0, 66), (g7, cw 4 (elN m x + elN m y), 111), (g9, cw 4 ((elN m x + elN m y) + B64 ^ 4 - m.M), 111)] := st13
 clear hd6
 refine NoPanic.normal ?_
 have hca := HCA.out
 have hfin := HFIN.out
 rw [hca]
 by_cases hlt2 : (elN m x + elN m y) < m.M
 ·obtain ⟨f1, f2, f3⟩ := hfin.1 hlt2
  rw [f1, f2]
  have HF := qH f3
  clear hca hfin f1 f2 f3 hlt2
  go_wp2_with (with_reducible refine AA 32 ?_)
  refine aI st13 3 rfl rfl rfl underlying111 rfl Ag ?_
  go_wp2_with (with_reducible refine AB ?_)
  refine aB st13 2 rfl rfl rfl rfl rfl Ah Ag (aF _ _) ?_
  intro w14 st14
  clear st13
  have hr := st14.at 2 rfl
  have hfr := st14.fr
  clear st14
  go_wp2_with fail
  exact bodyPost_ret (aX rfl rfl hr underlying66 Ag) rfl ⟨by rw [← e0u]; unfold i4; rw [HF.out], hfr⟩
 ·obtain ⟨f3, f4⟩ := hfin.2 hlt2
  have HF := qH f3
  by_cases hlt3 : (elN m x + elN m y) < B64 ^ 4
  ·obtain ⟨f1, f2⟩ := f4 hlt3
   rw [f1, f2]
   clear hca hfin f1 f2 f3 f4 hlt2 hlt3
   go_wp2_with (with_reducible refine AA 33 ?_)
   refine aI st13 4 rfl rfl rfl underlying111 rfl Ag ?_
   go_wp2_with (with_reducible refine AB ?_)
   refine aB st13 2 rfl rfl rfl rfl rfl Ah Ag (aF _ _) ?_
   intro w14 st14
   clear st13
   have hr := st14.at 2 rfl
   have hfr := st14.fr
   clear st14
   go_wp2_with fail
   exact bodyPost_ret (aX rfl rfl hr underlying66 Ag) rfl ⟨by rw [← e0u]; unfold i4; rw [HF.out], hfr⟩
  ·have f1 := h0V _ H2.out hlt3
   rw [f1]
   clear hca hfin f1 f3 f4 hlt2 hlt3
   go_wp2_with (with_reducible refine AA 33 ?_)
   refine aI st13 4 rfl rfl rfl underlying111 rfl Ag ?_
   go_wp2_with (with_reducible refine AB ?_)
   refine aB st13 2 rfl rfl rfl rfl rfl Ah Ag (aF _ _) ?_
   intro w14 st14
   clear st13
   have hr := st14.at 2 rfl
   have hfr := st14.fr
   clear st14
   go_wp2_with fail
   exact bodyPost_ret (aX rfl rfl hr underlying66 Ag) rfl ⟨by rw [← e0u]; unfold i4; rw [HF.out], hfr⟩
theorem e0v (m : Md) (gp : Nat) (w : World) (hok : m.Ok) (hpm : Has w gp (mdL m) 187) (x y : Nat) :
  Calls prog 182 #[.pointer (some ⟨gp, 0, none⟩), i4 (elN m x), i4 (elN m y)] w fun e w' => e = .returned (i4 (elN m (x + (m.M - y % m.M)))) ∧ Fr Nob w w' := by
 have HOK := qH hok
 have HPM := qH hpm
 clear hok hpm
 have hx := zH m HOK.out x
 have hy := zH m HOK.out y
 have HY4 := qH (Nat.lt_trans hy HOK.out.lt)
 have HCS := qH (nC (elN m x) (elN m y) 4 (Nat.lt_trans hx HOK.out.lt) (Nat.lt_trans hy HOK.out.lt))
 have HSA := qH (b0w (elN m x) (elN m y) m.M hx hy HOK.out.lt)
 have HSB := qH (b0x (elN m x) (elN m y) m.M hx hy)
 clear hx hy
 have st0 := St.start Nob w
 go_enter func182, ntmps182
 go_wp2_with (with_reducible refine AA 4 ?_)
 refine aL st0 rfl rfl rfl (cw 4 (elN m x)) rfl ?_
 intro g4 w1 st1
 clear st0
 go_wp2_with (with_reducible refine AA 5 ?_)
 refine aL st1 rfl rfl rfl (cw 4 (elN m y)) rfl ?_
 intro g5 w2 st2
 clear st1
 go_wp2_with (with_reducible refine AA 6 ?_)
 refine aA st2 rfl rfl (z := zAd) Aa (cw 4 0) Af ?_
 intro g6 w3 st3
 clear st2
 go_wp2_with (with_reducible refine AA 10 ?_)
 refine aI st3 0 rfl rfl rfl underlying66 rfl Ag ?_
 go_wp2_with (with_reducible refine AA 11 ?_)
 refine aI st3 1 rfl rfl rfl underlying66 rfl Ag ?_
 go_wp2_with fail
 refine (jH (elN m x) (elN m y) _ HY4.out).mono ?_
 rintro e' w4 ⟨rfl, hf4⟩
 have st4 := st3.keep hf4
 clear st3 hf4
 go_wp2_with (with_reducible refine AA 7 ?_)
 refine aA st4 rfl rfl (z := zAd) Aa (cw 4 0) Af ?_
 intro g7 w5 st5
 clear st4
 go_wp2_with (with_reducible refine AB ?_)
 refine aB st5 3 rfl rfl rfl rfl rfl Ah Ag (aF _ _) ?_
 intro w6 st6
 clear st5
 have hcs := HCS.out
 by_cases hlt : elN m x < elN m y
 ·rw [if_pos hlt] at hcs
  rw [hcs]
  have HV := qH (HSA.out hlt)
  clear hcs hlt
  go_wp2_with fail
  refine wp_region_noPanic ?_
  refine aP (fun wx => St Nob w wx [(g4, cw 4 (elN m x), 66), (g5, cw 4 (elN m y), 66), (g6, cw 4 0, 66), (g7, cw 4 (elN m x + B64 ^ 4 - elN m y), 111)]) 9 (.t 0 (.w 1 (.w 2 (.w 3 (.t 4 (.r 5 (.w 6 (.w 7 (.w 8 (.m 9 .nil)))))))))) Aa Aa st6.drew (fun _ _ _ _ _ h => h) ?_
  have hd6 := st6.drew
  clear st6
  refine aV rfl rfl rfl rfl (cw 4 (elN m x + B64 ^ 4 - elN m y)) (fun wx hS => St.rangeL hS 3 rfl 0 _ dZl) underlying111 rfl Ag ?_
  try simp only [J]
  refine aJ rfl rfl apW ?_
  try simp only [J]
  refine aJ rfl rfl apW ?_
  try simp only [J]
  refine aJ rfl rfl apW ?_
  try simp only [J]
  refine aV rfl rfl rfl rfl (cw 4 m.M) (fun wx hS => (HPM.out.keep (St.fr hS) id).range 0 _ (c0o m)) underlying111 rfl Ag ?_
  try simp only [J]
  refine bC rfl rfl ?_
  go_simp
  refine (pB (elN m x + B64 ^ 4 - elN m y) m.M _).mono ?_
  rintro e' w7 ⟨rfl, hf7⟩
  have st7 := hd6.keep hf7
  clear hf7
  clear hd6
  refine ⟨st7, ?_⟩
  try simp only [J]
  refine aJ rfl rfl apW ?_
  try simp only [J]
  refine aJ rfl rfl apW ?_
  try simp only [J]
  refine aJ rfl rfl apW ?_
  try simp only [J]
  refine aU rfl rfl ?_
  refine aG st7 3 rfl rfl rfl rfl Ah Ag (aF _ _) ?_
  intro w8 st8
  clear st7
  try simp only [Act.put]
  refine aH ?_
  refine NoPanic.normal ?_
  go_wp2_with (with_reducible refine AA 26 ?_)
  refine aI st8 3 rfl rfl rfl underlying111 rfl Ag ?_
  go_wp2_with (with_reducible refine AB ?_)
  refine aB st8 2 rfl rfl rfl rfl rfl Ah Ag (aF _ _) ?_
  intro w9 st9
  clear st8
  have hr := st9.at 2 rfl
  have hfr := st9.fr
  clear st9
  go_wp2_with fail
  exact bodyPost_ret (aX rfl rfl hr underlying66 Ag) rfl ⟨by rw [← m0V m HOK.out]; unfold i4; rw [← HV.out], hfr⟩
 ·rw [if_neg hlt] at hcs
  rw [hcs]
  have HV := qH (HSB.out hlt)
  clear hcs hlt
  go_wp2_with (with_reducible refine AA 26 ?_)
  refine aI st6 3 rfl rfl rfl underlying111 rfl Ag ?_
  go_wp2_with (with_reducible refine AB ?_)
  refine aB st6 2 rfl rfl rfl rfl rfl Ah Ag (aF _ _) ?_
  intro w7 st7
  clear st6
  have hr := st7.at 2 rfl
  have hfr := st7.fr
  clear st7
  go_wp2_with fail
  exact bodyPost_ret (aX rfl rfl hr underlying66 Ag) rfl ⟨by rw [← m0V m HOK.out]; unfold i4; rw [← HV.out], hfr⟩
theorem zK (m : Md) (gp : Nat) (w : World) (hok : m.Ok) (hpm : Has w gp (mdL m) 187) (x : Nat) :
  Calls prog 135 #[.pointer (some ⟨gp, 0, none⟩), i4 (elN m x)] w fun e w' => e = .returned (i4 (elN m (m.M - x % m.M))) ∧ Fr Nob w w' := by
 have HOK := qH hok
 have HPM := qH hpm
 clear hok hpm
 have hsub := fun wx (h : Has wx gp (mdL m) 187) => e0v m gp wx HOK.out h 0 x
 rw [kE m, ← dY 0 Ac] at hsub
 have HSUB := qH hsub
 clear hsub
 have st0 := St.start Nob w
 go_enter func135, ntmps135
 go_wp2_with (with_reducible refine AA 3 ?_)
 refine aL st0 rfl rfl rfl (cw 4 (elN m x)) rfl ?_
 intro g3 w1 st1
 clear st0
 go_wp2_with (with_reducible refine AA 4 ?_)
 refine aA st1 rfl rfl (z := zAd) Aa (cw 4 0) Af ?_
 intro g4 w2 st2
 clear st1
 go_wp2_with (with_reducible refine AA 7 ?_)
 refine aI st2 0 rfl rfl rfl underlying66 rfl Ag ?_
 go_wp2_with fail
 refine (HSUB.out _ (HPM.out.keep st2.fr id)).mono ?_
 rintro e' w3 ⟨rfl, hf3⟩
 have st3 := st2.keep hf3
 clear st2 hf3
 go_wp2_with (with_reducible refine AB ?_)
 refine aB st3 1 rfl rfl rfl rfl rfl Ah Ag (aF _ _) ?_
 intro w4 st4
 clear st3
 have hr := st4.at 1 rfl
 have hfr := st4.fr
 clear st4
 go_wp2_with fail
 exact bodyPost_ret (aX rfl rfl hr underlying66 Ag) rfl ⟨rfl, hfr⟩
theorem l0a (m : Md) (gp : Nat) (w : World) (hok : m.Ok) (hpm : Has w gp (mdL m) 187) (x y : Nat) :
  Calls prog 152 #[.pointer (some ⟨gp, 0, none⟩), i4 (elN m x), i4 (elN m y)] w fun e w' => e = .returned (i4 (elN m (x * y))) ∧ Fr Nob w w' := by
 have h := sH m gp (elN m x) (elN m y) w hok hpm (b0u m hok x) (zH m hok y)
 rwa [q0y m hok] at h
theorem jJ (m : Md) (gp : Nat) (w : World) (hok : m.Ok) (hpm : Has w gp (mdL m) 187) (x : Nat) :
  Calls prog 151 #[.pointer (some ⟨gp, 0, none⟩), i4 (elN m x)] w fun e w' => e = .returned (i4 (elN m (x * x))) ∧ Fr Nob w w' := by
 have HOK := qH hok
 have HPM := qH hpm
 clear hok hpm
 have st0 := St.start Nob w
 go_enter func151, ntmps151
 go_wp2_with (with_reducible refine AA 3 ?_)
 refine aL st0 rfl rfl rfl (cw 4 (elN m x)) rfl ?_
 intro g3 w1 st1
 clear st0
 go_wp2_with (with_reducible refine AA 4 ?_)
 refine aA st1 rfl rfl (z := zAd) Aa (cw 4 0) Af ?_
 intro g4 w2 st2
 clear st1
 go_wp2_with (with_reducible refine AA 6 ?_)
 refine aI st2 0 rfl rfl rfl underlying66 rfl Ag ?_
 go_wp2_with (with_reducible refine AA 7 ?_)
 refine aI st2 0 rfl rfl rfl underlying66 rfl Ag ?_
 go_wp2_with fail
 refine (l0a m gp _ HOK.out (HPM.out.keep st2.fr id) x x).mono ?_
 rintro e' w3 ⟨rfl, hf3⟩
 have st3 := st2.keep hf3
 clear st2 hf3
 go_wp2_with (with_reducible refine AB ?_)
 refine aB st3 1 rfl rfl rfl rfl rfl Ah Ag (aF _ _) ?_
 intro w4 st4
 clear st3
 have hr := st4.at 1 rfl
 have hfr := st4.fr
 clear st4
 go_wp2_with fail
 exact bodyPost_ret (aX rfl rfl hr underlying66 Ag) rfl ⟨rfl, hfr⟩
end
section
open Go.RowKit Go.Mv Mvp
attribute [local irreducible] bI lw mix cw cT dG cS bQ aO beN dO cI dI bM bT elN
theorem q0B (m : Md) (x n i : Nat) (h : n / 2 ^ i % 2 = 0) : elN m (x ^ (n / 2 ^ (i + 1)) * x ^ (n / 2 ^ (i + 1))) = elN m (x ^ (n / 2 ^ i)) := by
 have := kS n i
 rw [h, Nat.two_mul, Nat.add_zero] at this
 rw [← Nat.pow_add, this]
theorem q0C (m : Md) (x n i : Nat) (h : n / 2 ^ i % 2 = 1) : elN m (x ^ (n / 2 ^ (i + 1)) * x ^ (n / 2 ^ (i + 1)) * x) = elN m (x ^ (n / 2 ^ i)) := by
 have := kS n i
 rw [h, Nat.two_mul] at this
 rw [← Nat.pow_add, ← Nat.pow_succ, this]
theorem i0i (m : Md) (x n : Nat) (h : n < B64 ^ 4) : elN m (x ^ (n / 2 ^ 256)) = elN m 1 := by
 rw [Nat.div_eq_of_lt (Nat.lt_of_lt_of_le h Ac), Nat.pow_zero]
theorem i0j (m : Md) (x n : Nat) : elN m (x ^ (n / 2 ^ 0)) = elN m (x ^ n) := by rw [Nat.pow_zero, Nat.div_one]
theorem q0D (m : Md) (n i : Nat) (h : n / 2 ^ i % 2 = 0) : elN m (n / 2 ^ (i + 1) + n / 2 ^ (i + 1)) = elN m (n / 2 ^ i) := by
 have := kS n i
 rw [h, Nat.two_mul, Nat.add_zero] at this
 rw [this]
theorem q0E (m : Md) (n i : Nat) (h : n / 2 ^ i % 2 = 1) : elN m (n / 2 ^ (i + 1) + n / 2 ^ (i + 1) + 1) = elN m (n / 2 ^ i) := by
 have := kS n i
 rw [h, Nat.two_mul] at this
 rw [this]
theorem sI (m : Md) (gp : Nat) (w : World) (hok : m.Ok) (hpm : Has w gp (mdL m) 187) (x n : Nat) (hn : n < B64 ^ 4) :
  Calls prog 188 #[.pointer (some ⟨gp, 0, none⟩), i4 (elN m x), i4 n] w fun e w' => e = .returned (i4 (elN m (x ^ n))) ∧ Fr Nob w w' := by
 have HOK := qH hok
 have HPM := qH hpm
 clear hok hpm
 have HN := qH hn
 have HTOP := qH (i0i m x n hn)
 clear hn
 have st0 := St.start Nob w
 go_enter func188, ntmps188
 go_wp2_with (with_reducible refine AA 4 ?_)
 refine aL st0 rfl rfl rfl (cw 4 (elN m x)) rfl ?_
 intro g4 w1 st1
 clear st0
 go_wp2_with (with_reducible refine AA 5 ?_)
 refine aL st1 rfl rfl rfl (cw 4 n) rfl ?_
 intro g5 w2 st2
 clear st1
 go_wp2_with (with_reducible refine AA 6 ?_)
 refine aA st2 rfl rfl (z := zAd) Aa (cw 4 0) Af ?_
 intro g6 w3 st3
 clear st2
 go_wp2_with fail
 refine (lI m gp _ HOK.out (HPM.out.keep st3.fr id)).mono ?_
 rintro e' w4 ⟨rfl, hf4⟩
 have st4 := st3.keep hf4
 clear st3 hf4
 go_wp2_with (with_reducible refine AA 7 ?_)
 refine aA st4 rfl rfl (z := zAd) Aa (cw 4 0) Af ?_
 intro g7 w5 st5
 clear st4
 go_wp2_with (with_reducible refine AB ?_)
 refine aB st5 3 rfl rfl rfl rfl rfl Ah Ag (aF _ _) ?_
 intro w6 st6
 clear st5
 go_wp2
 go_loopw [8] (fun i wr => ∃ j : Nat, j ≤ 256 ∧ i = .int .i64 ((j : Int) - 1) ∧ St Nob w wr [(g4, cw 4 (elN m x), 66), (g5, cw 4 n, 111), (g6, cw 4 0, 66), (g7, cw 4 (elN m (x ^ (n / 2 ^ j))), 66)]) (fun i _ => (intOf i + 1).toNat)
 case atStart => exact ⟨256, by omega, rfl, by rw [HTOP.out]; exact st6⟩
 case round =>
  obtain ⟨j, hj, rfl, st⟩ := hrel
  clear st6
  cases j with
  | succ i =>
   rw [show (((i + 1 : Nat) : Int)) - 1 = (i : Int) by omega]
   have hge : (0 : Int) ≤ (i : Int) := by omega
   go_wp2_with (with_reducible refine AA 16 ?_)
   refine aI st 3 rfl rfl rfl underlying66 rfl Ag ?_
   go_wp2_with fail
   refine (jJ m gp _ HOK.out (HPM.out.keep st.fr id) (x ^ (n / 2 ^ (i + 1)))).mono ?_
   rintro e' w7 ⟨rfl, hf7⟩
   have st7 := st.keep hf7
   clear st hf7
   go_wp2_with (with_reducible refine AB ?_)
   refine aB st7 3 rfl rfl rfl rfl rfl Ah Ag (aF _ _) ?_
   intro w8 st8
   clear st7
   go_wp2_with (with_reducible refine AA 18 ?_)
   refine aI st8 1 rfl rfl rfl underlying111 rfl Ag ?_
   go_wp2_with fail
   refine (e0n n i _ Ab).mono ?_
   rintro e' w9 ⟨rfl, hf9⟩
   have st9 := st8.keep hf9
   clear st8 hf9
   have hbt : n / 2 ^ i % 2 = 0 ∨ n / 2 ^ i % 2 = 1 := by omega
   have HS0 := qH (q0B m x n i)
   have HS1 := qH (q0C m x n i)
   generalize hbb : n / 2 ^ i % 2 = bt at *
   have HBB := qH hbb
   clear hbb
   rcases hbt with rfl | rfl
   ·have hst := st9
    rw [HS0.out Bp] at hst
    clear st9
    go_wp2
    go_roundw
    case rel => exact ⟨i, by omega, rfl, hst⟩
    case measure => simp [intOf]
   ·skip
    go_wp2_with (with_reducible refine AA 23 ?_)
    refine aI st9 3 rfl rfl rfl underlying66 rfl Ag ?_
    go_wp2_with (with_reducible refine AA 24 ?_)
    refine aI st9 0 rfl rfl rfl underlying66 rfl Ag ?_
    go_wp2_with fail
    refine (l0a m gp _ HOK.out (HPM.out.keep st9.fr id) ((x ^ (n / 2 ^ (i + 1))) * (x ^ (n / 2 ^ (i + 1)))) x).mono ?_
    rintro e' w10 ⟨rfl, hf10⟩
    have st10 := st9.keep hf10
    clear st9 hf10
    go_wp2_with (with_reducible refine AB ?_)
    refine aB st10 3 rfl rfl rfl rfl rfl Ah Ag (aF _ _) ?_
    intro w11 st11
    clear st10
    have hst := st11
    rw [HS1.out Bp] at hst
    clear st11
    go_wp2
    go_roundw
    case rel => exact ⟨i, by omega, rfl, hst⟩
    case measure => simp [intOf]
  | zero =>
   rw [show (((0 : Nat) : Int)) - 1 = -1 by omega]
   go_wp2_with (with_reducible refine AA 26 ?_)
   refine aI st 3 rfl rfl rfl underlying66 rfl Ag ?_
   go_wp2_with (with_reducible refine AB ?_)
   refine aB st 2 rfl rfl rfl rfl rfl Ah Ag (aF _ _) ?_
   intro w7 st7
   clear st
   have hr := st7.at 2 rfl
   have hfr := st7.fr
   clear st7
   go_wp2_with fail
   exact bodyPost_ret (aX rfl rfl hr underlying66 Ag) rfl ⟨by rw [← i0j]; rfl, hfr⟩
theorem l0b (m : Md) (gp : Nat) (w : World) (hok : m.Ok) (hpm : Has w gp (mdL m) 187) (x : Nat) :
  Calls prog 150 #[.pointer (some ⟨gp, 0, none⟩), i4 (elN m x)] w fun e w' => e = .returned (i4 (elN m (x ^ (m.M - 2)))) ∧ Fr Nob w w' := by
 have HOK := qH hok
 have HPM := qH hpm
 clear hok hpm
 have HM2 := qH (show m.M - 2 < B64 ^ 4 by have := HOK.out.lt; omega)
 have h2m := fun wx => jH m.M 2 wx Ac
 rw [b0i m.M 2 Bn, ← dY 2 Ac] at h2m
 have H2M := qH h2m
 clear h2m
 have st0 := St.start Nob w
 go_enter func150, ntmps150
 go_wp2_with (with_reducible refine AA 3 ?_)
 refine aL st0 rfl rfl rfl (cw 4 (elN m x)) rfl ?_
 intro g3 w1 st1
 clear st0
 go_wp2_with (with_reducible refine AA 4 ?_)
 refine aA st1 rfl rfl (z := zAd) Aa (cw 4 0) Af ?_
 intro g4 w2 st2
 clear st1
 go_wp2_with (with_reducible refine AA 11 ?_)
 refine fA rfl rfl underlying111 rfl (HPM.out.keep st2.fr id) (cw 4 m.M) (c0o m) Ag ?_
 go_wp2_with fail
 refine (H2M.out _).mono ?_
 rintro e' w3 ⟨rfl, hf3⟩
 have st3 := st2.keep hf3
 clear st2 hf3
 go_wp2_with (with_reducible refine AA 5 ?_)
 refine aA st3 rfl rfl (z := zAd) Aa (cw 4 0) Af ?_
 intro g5 w4 st4
 clear st3
 go_wp2_with (with_reducible refine AB ?_)
 refine aB st4 2 rfl rfl rfl rfl rfl Ah Ag (aF _ _) ?_
 intro w5 st5
 clear st4
 go_wp2_with (with_reducible refine AA 17 ?_)
 refine aI st5 0 rfl rfl rfl underlying66 rfl Ag ?_
 go_wp2_with (with_reducible refine AA 18 ?_)
 refine aI st5 2 rfl rfl rfl underlying111 rfl Ag ?_
 go_wp2_with fail
 refine (sI m gp _ HOK.out (HPM.out.keep st5.fr id) x (m.M - 2) HM2.out).mono ?_
 rintro e' w6 ⟨rfl, hf6⟩
 have st6 := st5.keep hf6
 clear st5 hf6
 go_wp2_with (with_reducible refine AB ?_)
 refine aB st6 1 rfl rfl rfl rfl rfl Ah Ag (aF _ _) ?_
 intro w7 st7
 clear st6
 have hr := st7.at 1 rfl
 have hfr := st7.fr
 clear st7
 go_wp2_with fail
 exact bodyPost_ret (aX rfl rfl hr underlying66 Ag) rfl ⟨rfl, hfr⟩
theorem b0y (m : Md) (gp : Nat) (w : World) (hok : m.Ok) (hpm : Has w gp (mdL m) 187) (a : Option Addr) (n c : Nat) (l : List UInt8) (hb : RdB w a n l) (hn : n ≤ 32) :
  Calls prog 195 #[.pointer (some ⟨gp, 0, none⟩), .slice a n c] w fun e w' => e = .returned (i4 (elN m (beN l))) ∧ Fr Nob w w' := by
 have HOK := qH hok
 have HPM := qH hpm
 clear hok hpm
 have HN := qH hn
 have HBB := qH hb
 have hbl := pD l (by rw [hb.len]; exact hn)
 have HBL := qH hbl
 have HTOP := qH (show elN m (beN l / 2 ^ 256) = 0 by rw [Nat.div_eq_of_lt (Nat.lt_of_lt_of_le hbl Ac), kE])
 have HALL := qH (show elN m (beN l / 2 ^ 0) = elN m (beN l) by rw [Nat.pow_zero, Nat.div_one])
 clear hb hbl
 clear hn
 have st0 := St.start Nob w
 go_enter func195, ntmps195
 go_wp2_with (with_reducible refine AA 4 ?_)
 refine aA st0 rfl rfl (z := zAd) Aa (cw 4 0) Af ?_
 intro g4 w1 st1
 clear st0
 go_wp2_with fail
 refine (gK a n c l _ (HBB.out.still st1.fr) HN.out).mono ?_
 rintro e' w2 ⟨rfl, hf2⟩
 have st2 := st1.keep hf2
 clear st1 hf2
 go_wp2_with (with_reducible refine AA 5 ?_)
 refine aA st2 rfl rfl (z := zAd) Aa (cw 4 0) Af ?_
 intro g5 w3 st3
 clear st2
 go_wp2_with (with_reducible refine AB ?_)
 refine aB st3 1 rfl rfl rfl rfl rfl Ah Ad (aF _ _) ?_
 intro w4 st4
 clear st3
 go_wp2_with fail
 refine wp_region_noPanic ?_
 refine aP (fun wx => St Nob w wx [(g4, cw 4 0, 66), (g5, cw 4 (beN l), 111)]) 5 (.t 0 (.w 1 (.w 2 (.w 3 (.t 4 (.m 5 .nil)))))) Aa Aa st4.drew (fun _ _ _ _ _ h => h) ?_
 have hd4 := st4.drew
 clear st4
 refine aV rfl rfl rfl rfl (cw 4 (beN l)) (fun wx hS => St.rangeL hS 1 rfl 0 _ dZl) underlying111 rfl Ad ?_
 try simp only [J]
 refine aJ rfl rfl apW ?_
 try simp only [J]
 refine aJ rfl rfl apW ?_
 try simp only [J]
 refine aJ rfl rfl apW ?_
 try simp only [J]
 refine aV rfl rfl rfl rfl (cw 4 m.M) (fun wx hS => (HPM.out.keep (St.fr hS) id).range 0 _ (c0o m)) underlying111 rfl Ad ?_
 try simp only [J]
 refine aU rfl rfl ?_
 go_simp
 refine (pI (beN l) m.M _ HBL.out HOK.out.lt).mono ?_
 rintro e' w5 ⟨rfl, hf5⟩
 have st5 := hd4.keep hf5
 clear hf5
 clear hd4
 try simp only []
 refine aH ?_
 refine NoPanic.normal ?_
 by_cases hlt : beN l < m.M
 ·have hd := decide_eq_true hlt
  have HLT := qH hlt
  rw [hd]
  clear hd hlt
  go_wp2_with (with_reducible refine AA 18 ?_)
  refine aI st5 1 rfl rfl rfl underlying111 rfl Ad ?_
  go_wp2_with fail
  refine (kF m gp _ HOK.out (HPM.out.keep st5.fr id) (beN l) HBL.out).mono ?_
  rintro e' w6 ⟨rfl, hf6⟩
  have st6 := st5.keep hf6
  clear st5 hf6
  go_wp2_with (with_reducible refine AB ?_)
  refine aB st6 0 rfl rfl rfl rfl rfl Ah Ad (aF _ _) ?_
  intro w7 st7
  clear st6
  have hr := st7.at 0 rfl
  have hfr := st7.fr
  clear st7
  go_wp2_with fail
  exact bodyPost_ret (aX rfl rfl hr underlying66 Ad) rfl ⟨rfl, hfr⟩
 ·have hd := decide_eq_false hlt
  rw [hd]
  clear hd hlt
  go_wp2_with (with_reducible refine AA 6 ?_)
  refine aA st5 rfl rfl (z := zAd) Aa (cw 4 0) Af ?_
  intro g6 w6 st6
  clear st5
  go_wp2_with fail
  refine (lI m gp _ HOK.out (HPM.out.keep st6.fr id)).mono ?_
  rintro e' w7 ⟨rfl, hf7⟩
  have st7 := st6.keep hf7
  clear st6 hf7
  go_wp2_with (with_reducible refine AA 7 ?_)
  refine aA st7 rfl rfl (z := zAd) Aa (cw 4 0) Af ?_
  intro g7 w8 st8
  clear st7
  go_wp2_with (with_reducible refine AB ?_)
  refine aB st8 3 rfl rfl rfl rfl rfl Ah Ad (aF _ _) ?_
  intro w9 st9
  clear st8
  go_wp2
  go_loopw [8] (fun i wr => ∃ j : Nat, j ≤ 256 ∧ i = .int .i64 ((j : Int) - 1) ∧ St Nob w wr [(g4, cw 4 0, 66), (g5, cw 4 (beN l), 111), (g6, cw 4 (elN m (beN l / 2 ^ j)), 66), (g7, cw 4 (elN m 1), 66)]) (fun i _ => (intOf i + 1).toNat)
  case atStart => exact ⟨256, by omega, rfl, by rw [HTOP.out]; exact st9⟩
  case round =>
   obtain ⟨j, hj, rfl, st⟩ := hrel
   clear st9
   cases j with
   | succ i =>
    rw [show (((i + 1 : Nat) : Int)) - 1 = (i : Int) by omega]
    have hge : (0 : Int) ≤ (i : Int) := by omega
    go_wp2_with (with_reducible refine AA 27 ?_)
    refine aI st 2 rfl rfl rfl underlying66 rfl Ad ?_
    go_wp2_with (with_reducible refine AA 28 ?_)
    refine aI st 2 rfl rfl rfl underlying66 rfl Ad ?_
    go_wp2_with fail
    refine (pJ m gp _ HOK.out (HPM.out.keep st.fr id) (beN l / 2 ^ (i + 1)) (beN l / 2 ^ (i + 1))).mono ?_
    rintro e' w10 ⟨rfl, hf10⟩
    have st10 := st.keep hf10
    clear st hf10
    go_wp2_with (with_reducible refine AB ?_)
    refine aB st10 2 rfl rfl rfl rfl rfl Ah Ad (aF _ _) ?_
    intro w11 st11
    clear st10
    go_wp2_with (with_reducible refine AA 30 ?_)
    refine aI st11 1 rfl rfl rfl underlying111 rfl Ad ?_
    go_wp2_with fail
    refine (e0n (beN l) i _ Ab).mono ?_
    rintro e' w12 ⟨rfl, hf12⟩
    have st12 := st11.keep hf12
    clear st11 hf12
    have hbt : beN l / 2 ^ i % 2 = 0 ∨ beN l / 2 ^ i % 2 = 1 := by omega
    have HS0 := qH (q0D m (beN l) i)
    have HS1 := qH (q0E m (beN l) i)
    generalize hbb : beN l / 2 ^ i % 2 = bt at *
    have HBT := qH hbb
    clear hbb
    rcases hbt with rfl | rfl
    ·have hst := st12
     rw [HS0.out Bp] at hst
     clear st12
     go_wp2
     go_roundw
     case rel => exact ⟨i, by omega, rfl, hst⟩
     case measure => simp [intOf]
    ·skip
     go_wp2_with (with_reducible refine AA 35 ?_)
     refine aI st12 2 rfl rfl rfl underlying66 rfl Ad ?_
     go_wp2_with (with_reducible refine AA 36 ?_)
     refine aI st12 3 rfl rfl rfl underlying66 rfl Ad ?_
     go_wp2_with fail
     refine (pJ m gp _ HOK.out (HPM.out.keep st12.fr id) ((beN l / 2 ^ (i + 1)) + (beN l / 2 ^ (i + 1))) 1).mono ?_
     rintro e' w13 ⟨rfl, hf13⟩
     have st13 := st12.keep hf13
     clear st12 hf13
     go_wp2_with (with_reducible refine AB ?_)
     refine aB st13 2 rfl rfl rfl rfl rfl Ah Ad (aF _ _) ?_
     intro w14 st14
     clear st13
     have hst := st14
     rw [HS1.out Bp] at hst
     clear st14
     go_wp2
     go_roundw
     case rel => exact ⟨i, by omega, rfl, hst⟩
     case measure => simp [intOf]
   | zero =>
    rw [show (((0 : Nat) : Int)) - 1 = -1 by omega]
    go_wp2_with (with_reducible refine AA 38 ?_)
    refine aI st 2 rfl rfl rfl underlying66 rfl Ad ?_
    go_wp2_with (with_reducible refine AB ?_)
    refine aB st 0 rfl rfl rfl rfl rfl Ah Ad (aF _ _) ?_
    intro w10 st10
    clear st
    have hr := st10.at 0 rfl
    have hfr := st10.fr
    clear st10
    go_wp2_with fail
    exact bodyPost_ret (aX rfl rfl hr underlying66 Ad) rfl ⟨rfl, hfr⟩
end
section
open Go.RowKit Go.Mv Mvp
attribute [local irreducible] bI lw mix cw cT dG cS bQ aO beN dO cI dI bM bT elN
theorem l0c (m : Md) (h : m.Ok) (x : Nat) : elN m x * (B64 ^ 4 * B64 ^ 4 % m.M) * m.Ri % m.M = elN m (x * B64 ^ 4) := by
 rw [q0z m h]
 refine zI m ?_
 unfold elN
 rw [Nat.mod_mod]
theorem q0F (m : Md) (gp : Nat) (w : World) (hok : m.Ok) (hpm : Has w gp (mdL m) 187) (x : Nat) :
  Calls prog 152 #[.pointer (some ⟨gp, 0, none⟩), i4 (elN m x), i4 (B64 ^ 4 * B64 ^ 4 % m.M)] w fun e w' => e = .returned (i4 (elN m (x * B64 ^ 4))) ∧ Fr Nob w w' := by
 have h := sH m gp (elN m x) (B64 ^ 4 * B64 ^ 4 % m.M) w hok hpm (b0u m hok x) (Nat.mod_lt _ (by have := hok.one; omega))
 rwa [l0c m hok] at h
def lnV : Value → Nat
 | .slice _ n _ => n
 | _ => 0
theorem RdB.front {w : World} {a : Option Addr} {n : Nat} {l : List UInt8} (h : RdB w a n l) (k : Nat) (hk : k ≤ n) : RdB w a k (l.take k) := by
 have h' : Rd w a n (bs l) := h
 refine ⟨by rw [bP, List.length_take, h.len]; omega, ?_⟩
 rcases h'.2 with h0 | ⟨b, o, rfl, hc⟩
 ·exact .inl Ab
 ·refine .inr ⟨b, o, rfl, fun i v hv => hc i v ?_⟩
  rw [← mB, List.getElem?_take] at hv
  split at hv
  ·exact hv
  ·cases hv
theorem RdB.behind {w : World} {a : Option Addr} {n c : Nat} {l : List UInt8} (h : RdB w a n l) (k : Nat) (hk : k ≤ n) (hc : n ≤ c) : RdB w (fY a k c) (n - k) (l.drop k) := by
 have h1 := yK (m := c) h k n hk hc (Nat.le_refl _)
 unfold RdB
 rw [c0s] at h1
 rwa [List.take_of_length_le (by rw [bP, List.length_drop, h.len]; exact Nat.le_refl _)] at h1
theorem _root_.Bz {p : Prop} (h : p := by rw [HL.out]; exact Nat.le_refl _) : p := h
theorem c0W (m : Md) (gp : Nat) (w : World) (hok : m.Ok) (hpm : Has w gp (mdL m) 187) (a : Option Addr) (n c : Nat) (l : List UInt8) (hb : RdB w a n l) (hc : n ≤ c) (hn : n ≤ 1000000) :
  Calls prog 170 #[.pointer (some ⟨gp, 0, none⟩), .slice a n c] w fun e w' => e = .returned (i4 (beN l % m.M)) ∧ Fr Nob w w' := by
 have HOK := qH hok
 have HPM := qH hpm
 clear hok hpm
 have HC := qH hc
 have HN := qH hn
 have HBB := qH hb
 have HL := qH hb.len
 clear hb
 clear hc hn
 have st0 := St.start Nob w
 go_enter func170, ntmps170
 go_wp2_with (with_reducible refine AA 4 ?_)
 refine aA st0 rfl rfl (z := zAd) Aa (cw 4 0) Af ?_
 intro g4 w1 st1
 clear st0
 go_wp2_with (with_reducible refine AA 5 ?_)
 refine aA st1 rfl rfl (z := zAd) Aa (cw 4 0) Af ?_
 intro g5 w2 st2
 clear st1
 go_wp2
 go_frame
 go_loopw [1] (fun b wr => ∃ (r : Nat) (ar : Option Addr) (cr : Nat), r ≤ n ∧ (r = 0 ∨ (n - r) % 32 = 0) ∧ b = .slice ar (n - r) cr ∧ n - r ≤ cr ∧ RdB w ar (n - r) (l.drop r) ∧ St Nob w wr [(g4, cw 4 0, 111), (g5, cw 4 (elN m (beN (l.take r))), 66)]) (fun b _ => lnV b % 32)
 case atStart => exact ⟨0, a, c, by omega, .inl rfl, rfl, HC.out, HBB.out, by rw [List.take_zero, zA, kE]; exact st2⟩
 case round =>
  obtain ⟨r, ar, cr, hr, hcond, rfl, hcr, hrd, st⟩ := hrel
  clear st2
  have HCR := qH hcr
  have HRD := qH hrd
  have hn6 : n ≤ 1000000 := HN.out
  clear hcr hrd
  by_cases hm : (n - r) % 32 = 0
  ·have hne : ((((n - r : Nat) : Int) % 32) != 0) = false := by simp; omega
   have hcond2 : (n - r) % 32 = 0 := hm
   have HM := qH hm
   have HC2 := qH hcond2
   clear hm hcond hcond2
   generalize hk : n - r = k at *
   have HK := qH hk; clear hk
   go_wp2_with fail
   clear hne
   obtain ⟨wo, rfl⟩ : ∃ wo : World, wo = wr := ⟨_, rfl⟩
   go_loopw [1] (fun b wr => ∃ (r : Nat) (ar : Option Addr) (cr : Nat), r ≤ n ∧ (n - r) % 32 = 0 ∧ b = .slice ar (n - r) cr ∧ n - r ≤ cr ∧ RdB w ar (n - r) (l.drop r) ∧ St Nob w wr [(g4, cw 4 0, 111), (g5, cw 4 (elN m (beN (l.take r))), 66)]) (fun b _ => lnV b)
   case atStart => exact ⟨r, ar, cr, hr, by rw [HK.out]; exact HC2.out, by rw [HK.out], by rw [HK.out]; exact HCR.out, by rw [HK.out]; exact HRD.out, st⟩
   case round =>
    clear hr HCR HRD st HM HC2 HK
    obtain ⟨r, ar, cr, hr, hcond, rfl, hcr, hrd, st⟩ := hrel
    have HCR := qH hcr
    have HRD := qH hrd
    have HCO := qH hcond
    clear hcr hrd
    by_cases hz : r = n
    ·have HZ := qH hz
     have hkz : ((n - r : Nat) : Int) = 0 := by omega
     have hgt : (0 < ((n - r : Nat) : Int)) = False := by simp; omega
     clear hz hcond
     generalize n - r = k at *
     have hgt2 : ¬ (0 < (k : Int)) := by omega
     clear hgt hkz
     go_wp2_with (with_reducible refine AA 41 ?_)
     refine aI st 1 rfl rfl rfl underlying66 rfl Ad ?_
     go_wp2_with fail
     refine (mM m gp _ HOK.out (HPM.out.keep st.fr id) (beN (l.take r))).mono ?_
     rintro e' w3 ⟨rfl, hf3⟩
     have st3 := st.keep hf3
     clear st hf3
     go_wp2_with (with_reducible refine AB ?_)
     refine aB st3 0 rfl rfl rfl rfl rfl Ah Ad (aF _ _) ?_
     intro w4 st4
     clear st3
     have hr := st4.at 0 rfl
     have hfr := st4.fr
     clear st4
     go_wp2_with fail
     exact bodyPost_ret (aX rfl rfl hr underlying111 Ad) rfl ⟨by rw [HZ.out, List.take_of_length_le Bz]; rfl, hfr⟩
    ·have hk32 : 32 ≤ n - r := by omega
     obtain ⟨gb, ob, hAR, -⟩ := HRD.out.at Ab
     have hcut : fY ar 32 cr = if cr = 32 then ar else some ⟨gb, ob + 32, none⟩ := by rw [hAR]; simp [fY, hH]
     have HAR := qH hAR; clear hAR
     have HCUT := qH hcut; clear hcut
     have hfr := RdB.front HRD.out 32 hk32
     have hbe := RdB.behind HRD.out 32 hk32 HCR.out
     have htk := b0o l r 32 (by rw [HL.out]; omega)
     rw [show (256 : Nat) ^ 32 = B64 ^ 4 by decide] at htk
     have HFR := qH hfr
     have HBE := qH hbe
     have HTK := qH htk
     have hcr := HCR.out
     have k1 := fun wx => fF (P := prog) wx underlying22 eQ ar (n - r) cr .i64 32 Ab
     have k2 := fun wx => iF (P := prog) wx underlying22 eQ ar (n - r) cr .i64 32 Ab
     clear hz hcond hfr hbe htk hcr
     have hgt : (0 < ((n - r : Nat) : Int)) := by omega
     have hk3 : 32 ≤ n - r := hk32
     have hci : (32 : Int) ≤ (cr : Int) := by have := HCR.out; omega
     clear hk32
     generalize hkk : n - r = k at *
     have HKK := qH hkk; clear hkk
     go_wp2_with fail
     refine wp_region_noPanic ?_
     refine aP (fun wx => St Nob w wx [(g4, cw 4 0, 111), (g5, cw 4 (elN m (beN (l.take r))), 66)]) 13 (.w 0 (.w 1 (.t 2 (.w 3 (.w 4 (.w 5 (.t 6 (.w 8 (.w 9 (.w 10 (.r 7 (.r 11 (.r 12 (.m 13 .nil)))))))))))))) Aa Aa st.drew (fun _ _ _ _ _ h => h) ?_
     have hd2 := st.drew
     clear st
     refine aJ rfl rfl apW ?_
     try simp only [J]
     refine aJ rfl rfl apW ?_
     try simp only [J]
     refine aV rfl rfl rfl rfl (cw 4 (elN m (beN (l.take r)))) (fun wx hS => St.rangeL hS 1 rfl 0 _ dZl) underlying66 rfl Ad ?_
     try simp only [J]
     refine aJ rfl rfl apW ?_
     try simp only [J]
     refine aJ rfl rfl apW ?_
     try simp only [J]
     refine aJ rfl rfl apW ?_
     try simp only [J]
     refine aV rfl rfl rfl rfl (cw 4 (B64 ^ 4 * B64 ^ 4 % m.M)) (fun wx hS => (HPM.out.keep (St.fr hS) id).range 9 _ (q0q m)) underlying111 rfl Ad ?_
     try simp only [J]
     refine aJ rfl rfl apW ?_
     try simp only [J]
     refine aJ rfl rfl apW ?_
     try simp only [J]
     refine aJ rfl rfl apW ?_
     try simp only [J]
     refine bC rfl rfl ?_
     go_simp
     refine (q0F m gp _ HOK.out (HPM.out.keep hd2.fr id) (beN (l.take r))).mono ?_
     rintro e' w3 ⟨rfl, hf3⟩
     have st3 := hd2.keep hf3
     clear hf3
     clear hd2
     refine ⟨st3, ?_⟩
     try simp only [J]
     refine bC rfl rfl ?_
     go_simp
     refine (b0y m gp _ HOK.out (HPM.out.keep st3.fr id) ar 32 cr ((l.drop r).take 32) (HFR.out.still st3.fr) Ac).mono ?_
     rintro e' w4 ⟨rfl, hf4⟩
     have st4 := st3.keep hf4
     clear hf4
     clear st3
     refine ⟨st4, ?_⟩
     try simp only [J]
     refine bC rfl rfl ?_
     go_simp
     refine (pJ m gp _ HOK.out (HPM.out.keep st4.fr id) ((beN (l.take r)) * B64 ^ 4) (beN ((l.drop r).take 32))).mono ?_
     rintro e' w5 ⟨rfl, hf5⟩
     have st5 := st4.keep hf5
     clear hf5
     clear st4
     refine ⟨st5, ?_⟩
     try simp only [J]
     refine aU rfl rfl ?_
     refine aG st5 1 rfl rfl rfl rfl Ah Ad (aF _ _) ?_
     intro w6 st6
     clear st5
     try simp only [Act.put]
     refine aH ?_
     refine NoPanic.normal ?_
     have hst := st6
     rw [← HTK.out] at hst
     clear st6
     go_wp2_with fail
     go_roundw
     case rel =>
      refine ⟨r + 32, fY ar 32 cr, cr - 32, ?_, ?_, ?_, ?_, ?_, hst⟩
      ·have := HKK.out; omega
      ·have h1 := HCO.out; have h2 := HKK.out; omega
      ·have h2 := HKK.out; rw [show n - (r + 32) = k - 32 by omega, HCUT.out, HAR.out]; rfl
      ·have h2 := HKK.out; have h3 := HCR.out; omega
      ·have h2 := HKK.out
       have h3 := HBE.out
       rw [List.drop_drop] at h3
       rw [show n - (r + 32) = k - 32 by omega]
       exact h3
     case measure => simp [lnV]; omega
  ·have hne : ((((n - r : Nat) : Int) % 32) != 0) = true := by simp; omega
   have hr0 : r = 0 := by rcases hcond with h | h <;> omega
   subst hr0
   have hk32 : n % 32 ≤ n - 0 := by omega
   have hfr := RdB.front HRD.out (n % 32) hk32
   have hbe := RdB.behind HRD.out (n % 32) hk32 HCR.out
   have hcr := HCR.out
   have k1 := fun wx => fF (P := prog) wx underlying22 eQ ar (n - 0) cr .i64 (n % 32) Ab
   have k2 := fun wx => iF (P := prog) wx underlying22 eQ ar (n - 0) cr .i64 (n % 32) Ab
   have hm32 : n % 32 < 32 := Nat.mod_lt _ Ac
   have hmod : ((n % 32 : Nat) : Int) = (n : Int) % 32 := by omega
   simp only [List.drop_zero, Nat.sub_zero] at hfr hbe k1 k2 hne hm
   rw [hmod] at k1 k2
   have HFR := qH hfr
   have HBE := qH hbe
   have HM := qH hm
   have HM32 := qH hm32
   clear hm hfr hbe hcond hcr hk32 hr hmod hm32
   simp only [Nat.sub_zero]
   go_wp2_with fail
   refine (b0y m gp _ HOK.out (HPM.out.keep st.fr id) ar (n % 32) cr (l.take (n % 32)) (HFR.out.still st.fr) (Nat.le_of_lt HM32.out)).mono ?_
   rintro e' w3 ⟨rfl, hf3⟩
   have st3 := st.keep hf3
   clear st hf3
   go_wp2_with (with_reducible refine AB ?_)
   refine aB st3 1 rfl rfl rfl rfl rfl Ah Ad (aF _ _) ?_
   intro w4 st4
   clear st3
   have hst := st4
   clear st4
   go_wp2_with fail
   go_roundw
   case rel => exact ⟨n % 32, fY ar (n % 32) cr, cr - n % 32, by omega, .inr Ab, rfl, by have := HCR.out; omega, HBE.out, hst⟩
   case measure => have := HM.out; simp [lnV]; omega
end
section
open Go.RowKit Go.Mv Mvp
theorem e0w : [Value.int .u64 18446744069414583343, .int .u64 18446744073709551615, .int .u64 18446744073709551615, .int .u64 18446744073709551615, .int .u64 15580212934572586289, .int .u64 4294968273, .int .u64 0, .int .u64 0, .int .u64 0, .int .u64 8392367050913, .int .u64 1, .int .u64 0, .int .u64 0] = mdL mP := by kernel_rfl
theorem l0d : [Value.int .u64 13822214165235122497, .int .u64 13451932020343611451, .int .u64 18446744073709551614, .int .u64 18446744073709551615, .int .u64 5408259542528602431, .int .u64 4624529908474429119, .int .u64 4994812053365940164, .int .u64 1, .int .u64 0, .int .u64 9902555850136342848, .int .u64 8364476168144746616, .int .u64 16616019711348246470, .int .u64 11342065889886772165] = mdL mQ := by kernel_rfl
theorem Of0 (w : World) : Calls prog 143 #[.int .i64 0] w fun e w' => ∃ g, e = .returned (.tuple #[.pointer (some ⟨g, 0, none⟩), .bool true]) ∧ w.heap.size ≤ g ∧ Has w' g (mdL mP) 187 ∧ Fr Nob w w' := by
 go_enter func143, ntmps143
 go_wp2
 go_ret2
 exact ⟨_, rfl, Nat.le_refl _, by rw [← e0w]; exact Has.new w _ _, (Fr.refl Nob w).alloc _⟩
theorem Of1 (w : World) : Calls prog 143 #[.int .i64 1] w fun e w' => ∃ g, e = .returned (.tuple #[.pointer (some ⟨g, 0, none⟩), .bool true]) ∧ w.heap.size ≤ g ∧ Has w' g (mdL mQ) 187 ∧ Fr Nob w w' := by
 go_enter func143, ntmps143
 go_wp2
 go_ret2
 exact ⟨_, rfl, Nat.le_refl _, by rw [← l0d]; exact Has.new w _ _, (Fr.refl Nob w).alloc _⟩
end
section
open Go.RowKit Go.Mv Mvp
inductive KindOf : Int → Md → Prop where
 | zero : KindOf 0 mP
 | one : KindOf 1 mQ
theorem KindOf.ok {k : Int} {m : Md} (h : KindOf k m) : m.Ok := by cases h; exact fR; exact lT
theorem OfK {k : Int} {m : Md} (hk : KindOf k m) (w : World) : Calls prog 143 #[.int .i64 k] w fun e w' => ∃ g, e = .returned (.tuple #[.pointer (some ⟨g, 0, none⟩), .bool true]) ∧ w.heap.size ≤ g ∧ Has w' g (mdL m) 187 ∧ Fr Nob w w' := by
 cases hk
 ·exact Of0 w
 ·exact Of1 w
theorem q0G {k : Int} {m : Md} (hk : KindOf k m) (w : World) : Calls prog 124 #[.int .i64 k] w fun e w' => e = .returned (fv m.M) ∧ Fr Nob w w' := by
 cases hk
 ·exact s0z w
 ·exact s0A w
attribute [local irreducible] bI lw mix cw cT dG cS bQ aO beN dO cI dI bM bT elN mdL
end
end Go.Proofs.YtemcankmggmgoaaGreat
namespace Go.Mv
open Go.RowKit
variable {P : Program}
section
variable {w : World} {ops : Array Oper} {rest : List Oper} {o : Oper} {a : Act} {Q : Exit → Act → World → Prop}
end
end Go.Mv
namespace Go.Mv
open Go.RowKit
section
variable {P : Program} {w : World} {ops : Array Oper} {o : Oper} {a : Act} {K : Act → World → Prop} {Q : Exit → Act → World → Prop} {E : Prop}
end
end Go.Mv
namespace Go.Mv
open Go.RowKit
variable {P : Program}
end Go.Mv
namespace Go.Mv
open Go.RowKit
variable {P : Program}
theorem nD {w : World} {ops : Array Oper} {rest : List Oper} {o : Oper} {a : Act} {Q : Exit → Act → World → Prop} {t e : TypeId} {k : Nat} {parts : Array (Nat × Operand)} (hgd : o.guard = none) (ho : o.op = .buildSlice t k parts)
  (hu : P.underlying t = some (.slice e)) {z : Value} {sz by_ : Nat} (hi0 : (P.info? e).map (fun i => (i.zero, i.size, i.bytes)) = some (some z, sz, by_)) (vs : List Value) (hp : (parts.toList.map fun p => (p.1, a.eval p.2)) = (vs.zipIdx 0).map fun x => (x.2, x.1))
  (hv : ∀ v ∈ vs, v.cells.size = sz) (hk : vs.length = k) (L : List Value) (hL : (vs.flatMap fun v => v.cells.toList) = L)
  (h : ∀ w', Has w' w.heap.size L e → Fr Nob w w' → w'.heap.size = w.heap.size + 1 → wpList P ops Q rest (a.put o.dst (.slice (some ⟨w.heap.size, 0, none⟩) k k)) w') (hk0 : 0 < k * sz := by decide) (hk24 : k * sz ≤ 16777216 := by decide) : wpList P ops Q (o :: rest) a w := by
 obtain ⟨i, hi, hz0⟩ : ∃ i, P.info? e = some i ∧ (i.zero, i.size, i.bytes) = (some z, sz, by_) := by simpa using hi0
 simp only [Prod.mk.injEq] at hz0
 obtain ⟨hz1, hsz, hby⟩ := hz0
 have hs0 : 0 < sz := Nat.pos_of_mul_pos_left hk0
 have hf : Instr.fill (fun j => some (j * i.size, i.size)) ((Array.range (k * i.size)).map (z.cells[· % z.cells.size]!)) (parts.map fun (i, x) => (i, a.eval x)).toList = some L.toArray := by
  rw [show (parts.map fun (i, x) => (i, a.eval x)).toList = (parts.toList.map fun p => (p.1, a.eval p.2)) by simp, hp, hsz, ← hL]
  exact Great.fill_whole hs0 vs _ hv (by simp [hk])
 exact wpList_buildSlice hgd t e k _ ho _ i _ hu hi hz1 Bh Bh hf (h _ (Has.new w L.toArray e) ((Fr.refl _ w).alloc _) Ae)
end Go.Mv
namespace Go.Mv
open Go.RowKit
variable {P : Program}
end Go.Mv
namespace Go.Mv
open Go.RowKit Mvp
def BPart (w : World) (v : Value) (l : List UInt8) : Prop := ∃ a n c, v = .slice a n c ∧ n ≤ c ∧ RdB w a n l
def BParts (w : World) (vs : List Value) (ls : List (List UInt8)) : Prop := vs.length = ls.length ∧ ∀ i v, vs[i]? = some v → BPart w v (ls.getD i [])
theorem BPart.still {w w' : World} {v : Value} {l : List UInt8} (h : BPart w v l) (hf : Fr Nob w w') : BPart w' v l := by
 obtain ⟨a, n, c, e, hc, hr⟩ := h
 exact ⟨a, n, c, e, hc, hr.still hf⟩
theorem BPart.one {w : World} {v : Value} {l : List UInt8} (h : BPart w v l) : v.cells = #[v] := by
 obtain ⟨a, n, c, rfl, -, -⟩ := h
 rfl
theorem BParts.still {w w' : World} {vs : List Value} {ls : List (List UInt8)} (h : BParts w vs ls) (hf : Fr Nob w w') : BParts w' vs ls := ⟨h.1, fun i v hv => (h.2 i v hv).still hf⟩
theorem BParts.one {w : World} {v : Value} {l : List UInt8} (h : BPart w v l) : BParts w [v] [l] := ⟨rfl, fun i u hu => by
 cases i with
 | zero => simp at hu; subst hu; exact h
 | succ i => simp at hu⟩
theorem BParts.two {w : World} {v u : Value} {l k : List UInt8} (h : BPart w v l) (h2 : BPart w u k) : BParts w [v, u] [l, k] := ⟨rfl, fun i x hx => by
 match i with
 | 0 => simp at hx; subst hx; exact h
 | 1 => simp at hx; subst hx; exact h2
 | i + 2 => simp at hx⟩
end Go.Mv
namespace Mvp
def cL (m : Md) (l : List UInt8) : Bool := decide (l.length = 32) && decide (beN l < m.M)
def dE (m : Md) (ls : List (List UInt8)) : Bool := ls.all (cL m)
theorem qP (m : Md) (ls : List (List UInt8)) (k : Nat) (h : k < ls.length) : dE m (ls.take (k + 1)) = (dE m (ls.take k) && cL m (ls.getD k [])) := by
 rw [List.take_succ_eq_append_getElem h, dE, List.all_append, ← dE]
 simp [List.getD_eq_getElem?_getD, h]
theorem uH (m : Md) (ls : List (List UInt8)) (k : Nat) (h : k < ls.length) (hb : cL m (ls.getD k []) = false) : dE m ls = false := by
 rw [dE, List.all_eq_false]
 refine ⟨ls.getD k [], ?_, by simpa using hb⟩
 rw [List.getD_eq_getElem?_getD, List.getElem?_eq_getElem h]
 exact List.getElem_mem h
end Mvp
namespace Go.Proofs.YtemcankmggmgoaaGreat
section
open Go.RowKit Go.Mv Mvp
attribute [local irreducible] bI lw mix cw cT dG cS bQ aO beN dO cI dI bM bT elN mdL dE cL
end
section
open Go.RowKit Go.Mv Mvp
attribute [local irreducible] bI lw mix cw cT dG cS bQ aO beN dO cI dI bM bT elN mdL cL
theorem cC {P : Program} {o : Oper} {a : Act} {t : TypeId} {parts : Array (Nat × Operand)} (ho : o.op = .build t parts) (cells : Array Value)
  (hb : P.built t (parts.toList.map fun p => (p.1, a.eval p.2)) = some cells) (w : World) : (execOp a.eval o).run P w = .ok (.value (.agg cells)) w := by
 have hr := run_build (P := P) w t (parts.map fun (i, x) => (i, a.eval x)) cells (by
  have : (parts.map fun (i, x) => (i, a.eval x)).toList = (parts.toList.map fun p => (p.1, a.eval p.2)) := by simp
  rw [this]; exact hb)
 unfold execOp
 simp only [ho, Sem.run_bind, Sem.run_pure, Result.andThen_ok, hr]
theorem bF {P : Program} {fn : Func} {p : Tmp} {ty : TypeId} {s : Tmp} (h : fn.results = #[.cell p ty, .tmp s]) {tmps : Array Value} {w : World} {g : Nat} {L : List Value} {T : TypeId}
  (hp : tmps.getD p undef = .pointer (some ⟨g, 0, none⟩)) (hg : Has w g L T) {d : TypeDesc} (hu : P.underlying ty = some d) (hd : (match d with | .struct _ | .array _ _ => true | _ => false) = true) (hi : (P.info? ty).map (·.size) = some L.length) {v : Value} (hv : tmps.getD s undef = v) :
  (results fn tmps).run P w = .ok (.tuple #[.agg L.toArray, v]) w := by
 obtain ⟨lo, hi', hh, -⟩ := hg
 have hp' : tmps[p]?.getD undef = .pointer (some ⟨g, 0, none⟩) := by simpa using hp
 have hv' : tmps[s]?.getD undef = v := by simpa using hv
 simp [results, h, hp', hv', asAddr, run_loadVar_row w g T ty L.toArray _ _ hh hu (by cases d <;> first | rfl | (simp at hd)) (by simpa using hi)]
theorem i0k : (prog.info? 68).map (fun i => (i.zero, i.size, i.bytes)) = some (some (.agg #[.int .u64 0, .int .u64 0, .int .u64 0, .int .u64 0]), 4, 32) := by kernel_rfl
theorem uI (a : Nat) : prog.built 68 [(0, i4 a)] = some (cw 4 a).toArray := by kernel_rfl
theorem jK (m : Md) (hk : KindOf 1 m) (w : World) : Calls prog 119 #[] w fun e w' => ∃ gp, e = .returned (.pointer (some ⟨gp, 0, none⟩)) ∧ w.heap.size ≤ gp ∧ Has w' gp (mdL m) 187 ∧ Fr Nob w w' := by
 have HK := qH hk
 clear hk
 go_enter func119, ntmps119
 go_wp2_with fail
 refine (OfK HK.out _).mono ?_
 rintro e w1 ⟨gp, rfl, hle, hm, hf⟩
 have HL := qH hle
 have HM := qH hm
 have HF := qH hf
 clear hm hf hle
 go_wp2_with fail
 go_ret
 exact ⟨gp, rfl, HL.out, HM.out, HF.out⟩
theorem e0x (m : Md) (hk : KindOf 1 m) (x y : Nat) (w : World) :
  Calls prog 92 #[i4 (elN m x), i4 (elN m y)] w fun e w' => e = .returned (i4 (elN m (x * y))) ∧ Fr Nob w w' := by
 have HK := qH hk
 have HOK := qH hk.ok
 clear hk
 have st0 := St.start Nob w
 go_enter func92, ntmps92
 go_wp2_with (with_reducible refine AA 2 ?_)
 refine aL st0 rfl rfl rfl (cw 4 (elN m x)) rfl ?_
 intro g2 w1 st1
 clear st0
 go_wp2_with (with_reducible refine AA 3 ?_)
 refine aL st1 rfl rfl rfl (cw 4 (elN m y)) rfl ?_
 intro g3 w2 st2
 clear st1
 go_wp2_with (with_reducible refine AA 4 ?_)
 refine aA st2 rfl rfl (z := zAd) Aa (cw 4 0) Af ?_
 intro g4 w3 st3
 clear st2
 go_wp2_with fail
 refine wp_region_noPanic ?_
 refine aP (fun wx => St Nob w wx [(g2, cw 4 (elN m x), 68), (g3, cw 4 (elN m y), 68), (g4, cw 4 0, 68)]) 7 (.w 1 (.t 2 (.w 3 (.t 4 (.r 0 (.r 5 (.w 6 (.m 7 .nil)))))))) Aa Aa st3.drew (fun _ _ _ _ _ h => h) ?_
 have hd3 := st3.drew
 clear st3
 refine aJ rfl rfl apW ?_
 try simp only [J]
 refine aV rfl rfl rfl rfl (cw 4 (elN m x)) (fun wx hS => St.rangeL hS 0 rfl 0 _ dZl) underlying66 rfl Ad ?_
 try simp only [J]
 refine aJ rfl rfl apW ?_
 try simp only [J]
 refine aV rfl rfl rfl rfl (cw 4 (elN m y)) (fun wx hS => St.rangeL hS 1 rfl 0 _ dZl) underlying66 rfl Ad ?_
 try simp only [J]
 refine bC rfl rfl ?_
 go_simp
 refine (jK m HK.out _).mono ?_
 rintro e' w4 ⟨gp, rfl, hle, hm, hf4⟩
 have st4 : St Nob w w4 [(g2, cw 4 (elN m x), 68), (g3, cw 4 (elN m y), 68), (g4, cw 4 0, 68), (gp, mdL m, 187)] := hd3.new hf4 hm hle
 clear hf4 hm hle
 clear hd3
 refine ⟨St.less st4 Ae, ?_⟩
 try simp only [J]
 refine bC rfl rfl ?_
 go_simp
 refine (l0a m gp _ HOK.out (st4.at 3 rfl) x y).mono ?_
 rintro e' w5 ⟨rfl, hf5⟩
 have st5 := st4.keep hf5
 clear hf5
 clear st4
 refine ⟨St.less st5 Ae, ?_⟩
 try simp only [J]
 refine aJ rfl rfl (cC rfl _ (uI _)) ?_
 try simp only [J]
 refine aU rfl rfl ?_
 refine aG st5 2 rfl rfl rfl rfl Ah Ad (aF _ _) ?_
 intro w6 st6
 clear st5
 try simp only [Act.put]
 refine aH ?_
 refine NoPanic.normal ?_
 have hr := st6.at 2 rfl
 have hfr := st6.fr
 clear st6
 go_wp2_with fail
 exact bodyPost_ret (aY rfl rfl hr underlying68 rfl Ad) rfl ⟨rfl, hfr⟩
theorem o0r (m : Md) (hk : KindOf 1 m) (a : Option Addr) (n c : Nat) (l : List UInt8) (w : World) (hb : RdB w a n l) (h32 : l.length ≠ 32) :
  Calls prog 103 #[.slice a n c] w fun e w' => e = .returned (.tuple #[i4 0, .bool false]) ∧ Fr Nob w w' := by
 have HK := qH hk
 have HOK := qH hk.ok
 clear hk
 have HB := qH hb
 have HN := qH (show l.length = n from hb.len)
 clear hb
 have hne : ((n : Int) != 32) = true := by have := HN.out; simp; omega
 clear h32
 have st0 := St.start Nob w
 go_enter func103, ntmps103
 go_wp2_with (with_reducible refine AA 2 ?_)
 refine aA st0 rfl rfl (z := zAd) Aa (cw 4 0) Af ?_
 intro g2 w1 st1
 clear st0
 go_wp2_with (with_reducible refine AA 9 ?_)
 refine aM st1 0 rfl rfl rfl underlying68 rfl rfl Ad ?_
 go_wp2_with (with_reducible refine AB ?_)
 refine aB st1 0 rfl rfl rfl rfl rfl Ah Ad (aF _ _) ?_
 intro w2 st2
 clear st1
 have hr := st2.at 0 rfl
 have hfr := st2.fr
 clear st2
 go_wp2_with fail
 exact bodyPost_ret (bF rfl rfl hr underlying68 rfl Ad rfl) rfl ⟨rfl, hfr⟩
theorem q0H (m : Md) (hk : KindOf 1 m) (a : Option Addr) (n c : Nat) (l : List UInt8) (w : World) (hb : RdB w a n l) (h32 : l.length = 32) (hlt : beN l < m.M) :
  Calls prog 103 #[.slice a n c] w fun e w' => e = .returned (.tuple #[i4 (elN m (beN l)), .bool true]) ∧ Fr Nob w w' := by
 have HK := qH hk
 have HOK := qH hk.ok
 clear hk
 have hbl := pD l Ab
 have HBL := qH hbl
 have h32' : n = 32 := by have := hb.len; omega
 subst h32'
 have HB := qH hb
 have hne : (((32 : Nat) : Int) != 32) = false := by rfl
 clear hb hbl h32
 have HLT := qH hlt
 clear hlt
 have st0 := St.start Nob w
 go_enter func103, ntmps103
 go_wp2_with (with_reducible refine AA 2 ?_)
 refine aA st0 rfl rfl (z := zAd) Aa (cw 4 0) Af ?_
 intro g2 w1 st1
 clear st0
 go_wp2_with fail
 refine (jK m HK.out _).mono ?_
 rintro e' w2 ⟨gp, rfl, hle, hm, hf2⟩
 have st2 : St Nob w w2 [(g2, cw 4 0, 68), (gp, mdL m, 187)] := st1.new hf2 hm hle
 clear st1 hf2 hm hle
 go_wp2_with fail
 refine (gK a 32 c l _ (HB.out.still st2.fr) Ac).mono ?_
 rintro e' w3 ⟨rfl, hf3⟩
 have st3 := st2.keep hf3
 clear st2 hf3
 go_wp2_with (with_reducible refine AA 5 ?_)
 refine aA st3 rfl rfl (z := zAd) Aa (cw 4 0) Af ?_
 intro g5 w4 st4
 clear st3
 go_wp2_with (with_reducible refine AB ?_)
 refine aB st4 2 rfl rfl rfl rfl rfl Ah Ad (aF _ _) ?_
 intro w5 st5
 clear st4
 go_wp2_with fail
 refine wp_region_noPanic ?_
 refine aP (fun wx => St Nob w wx [(g2, cw 4 0, 68), (gp, mdL m, 187), (g5, cw 4 (beN l), 111)]) 6 (.t 0 (.w 1 (.w 2 (.w 3 (.t 4 (.r 5 (.m 6 .nil))))))) Aa Aa st5.drew (fun _ _ _ _ _ h => h) ?_
 have hd5 := st5.drew
 clear st5
 refine aV rfl rfl rfl rfl (cw 4 (beN l)) (fun wx hS => St.rangeL hS 2 rfl 0 _ dZl) underlying111 rfl Ad ?_
 try simp only [J]
 refine aJ rfl rfl apW ?_
 try simp only [J]
 refine aJ rfl rfl apW ?_
 try simp only [J]
 refine aJ rfl rfl apW ?_
 try simp only [J]
 refine aV rfl rfl rfl rfl (cw 4 m.M) (fun wx hS => St.rangeL hS 1 rfl 0 _ (c0o m)) underlying111 rfl Ad ?_
 try simp only [J]
 refine bC rfl rfl ?_
 go_simp
 refine (pI (beN l) m.M _ HBL.out HOK.out.lt).mono ?_
 rintro e' w6 ⟨rfl, hf6⟩
 have st6 := hd5.keep hf6
 clear hf6
 clear hd5
 refine ⟨st6, ?_⟩
 try simp only [J]
 refine aU rfl rfl ?_
 go_simp
 try simp only [J]
 refine aH ?_
 refine NoPanic.normal ?_
 rw [decide_eq_true HLT.out]
 go_wp2_with (with_reducible refine AA 22 ?_)
 refine aI st6 2 rfl rfl rfl underlying111 rfl Ad ?_
 go_wp2_with fail
 refine (kF m gp _ HOK.out (st6.at 1 rfl) (beN l) HBL.out).mono ?_
 rintro e' w7 ⟨rfl, hf7⟩
 have st7 := st6.keep hf7
 clear st6 hf7
 go_wp2_with (with_reducible refine AA 24 ?_)
 refine cD rfl rfl _ (uI _) ?_
 go_wp2_with (with_reducible refine AB ?_)
 refine aB st7 0 rfl rfl rfl rfl rfl Ah Ad (aF _ _) ?_
 intro w8 st8
 clear st7
 have hr := st8.at 0 rfl
 have hfr := st8.fr
 clear st8
 go_wp2_with fail
 exact bodyPost_ret (bF rfl rfl hr underlying68 rfl Ad rfl) rfl ⟨rfl, hfr⟩
theorem o0s (m : Md) (hk : KindOf 1 m) (a : Option Addr) (n c : Nat) (l : List UInt8) (w : World) (hb : RdB w a n l) (h32 : l.length = 32) (hlt : ¬ beN l < m.M) :
  Calls prog 103 #[.slice a n c] w fun e w' => e = .returned (.tuple #[i4 0, .bool false]) ∧ Fr Nob w w' := by
 have HK := qH hk
 have HOK := qH hk.ok
 clear hk
 have hbl := pD l Ab
 have HBL := qH hbl
 have h32' : n = 32 := by have := hb.len; omega
 subst h32'
 have HB := qH hb
 have hne : (((32 : Nat) : Int) != 32) = false := by rfl
 clear hb hbl h32
 have HLT := qH hlt
 clear hlt
 have st0 := St.start Nob w
 go_enter func103, ntmps103
 go_wp2_with (with_reducible refine AA 2 ?_)
 refine aA st0 rfl rfl (z := zAd) Aa (cw 4 0) Af ?_
 intro g2 w1 st1
 clear st0
 go_wp2_with fail
 refine (jK m HK.out _).mono ?_
 rintro e' w2 ⟨gp, rfl, hle, hm, hf2⟩
 have st2 : St Nob w w2 [(g2, cw 4 0, 68), (gp, mdL m, 187)] := st1.new hf2 hm hle
 clear st1 hf2 hm hle
 go_wp2_with fail
 refine (gK a 32 c l _ (HB.out.still st2.fr) Ac).mono ?_
 rintro e' w3 ⟨rfl, hf3⟩
 have st3 := st2.keep hf3
 clear st2 hf3
 go_wp2_with (with_reducible refine AA 5 ?_)
 refine aA st3 rfl rfl (z := zAd) Aa (cw 4 0) Af ?_
 intro g5 w4 st4
 clear st3
 go_wp2_with (with_reducible refine AB ?_)
 refine aB st4 2 rfl rfl rfl rfl rfl Ah Ad (aF _ _) ?_
 intro w5 st5
 clear st4
 go_wp2_with fail
 refine wp_region_noPanic ?_
 refine aP (fun wx => St Nob w wx [(g2, cw 4 0, 68), (gp, mdL m, 187), (g5, cw 4 (beN l), 111)]) 6 (.t 0 (.w 1 (.w 2 (.w 3 (.t 4 (.r 5 (.m 6 .nil))))))) Aa Aa st5.drew (fun _ _ _ _ _ h => h) ?_
 have hd5 := st5.drew
 clear st5
 refine aV rfl rfl rfl rfl (cw 4 (beN l)) (fun wx hS => St.rangeL hS 2 rfl 0 _ dZl) underlying111 rfl Ad ?_
 try simp only [J]
 refine aJ rfl rfl apW ?_
 try simp only [J]
 refine aJ rfl rfl apW ?_
 try simp only [J]
 refine aJ rfl rfl apW ?_
 try simp only [J]
 refine aV rfl rfl rfl rfl (cw 4 m.M) (fun wx hS => St.rangeL hS 1 rfl 0 _ (c0o m)) underlying111 rfl Ad ?_
 try simp only [J]
 refine bC rfl rfl ?_
 go_simp
 refine (pI (beN l) m.M _ HBL.out HOK.out.lt).mono ?_
 rintro e' w6 ⟨rfl, hf6⟩
 have st6 := hd5.keep hf6
 clear hf6
 clear hd5
 refine ⟨st6, ?_⟩
 try simp only [J]
 refine aU rfl rfl ?_
 go_simp
 try simp only [J]
 refine aH ?_
 refine NoPanic.normal ?_
 rw [decide_eq_false HLT.out]
 go_wp2_with (with_reducible refine AA 20 ?_)
 refine aM st6 0 rfl rfl rfl underlying68 rfl rfl Ad ?_
 go_wp2_with (with_reducible refine AB ?_)
 refine aB st6 0 rfl rfl rfl rfl rfl Ah Ad (aF _ _) ?_
 intro w7 st7
 clear st6
 have hr := st7.at 0 rfl
 have hfr := st7.fr
 clear st7
 go_wp2_with fail
 exact bodyPost_ret (bF rfl rfl hr underlying68 rfl Ad rfl) rfl ⟨rfl, hfr⟩
theorem o0t (m : Md) (hk : KindOf 1 m) (a : Option Addr) (n c : Nat) (l : List UInt8) (w : World) (hb : RdB w a n l) (h : cL m l = true) :
  Calls prog 103 #[.slice a n c] w fun e w' => e = .returned (.tuple #[i4 (elN m (beN l)), .bool true]) ∧ Fr Nob w w' := by
 unfold cL at h
 simp only [Bool.and_eq_true, decide_eq_true_eq] at h
 exact q0H m hk a n c l w hb h.1 h.2
theorem q0I (m : Md) (hk : KindOf 1 m) (a : Option Addr) (n c : Nat) (l : List UInt8) (w : World) (hb : RdB w a n l) (h : cL m l = false) :
  Calls prog 103 #[.slice a n c] w fun e w' => e = .returned (.tuple #[i4 0, .bool false]) ∧ Fr Nob w w' := by
 unfold cL at h
 simp only [Bool.and_eq_false_iff, decide_eq_false_iff_not] at h
 by_cases h32 : l.length = 32
 ·exact o0s m hk a n c l w hb h32 (by rcases h with h | h; exact absurd h32 h; exact h)
 ·exact o0r m hk a n c l w hb h32
theorem i0l (m : Md) (hk : KindOf 1 m) (a : Option Addr) (n c : Nat) (l : List UInt8) (w : World) (hb : RdB w a n l) (hc : n ≤ c) (hn : n ≤ 1000000) :
  Calls prog 116 #[.slice a n c] w fun e w' => e = .returned (i4 (elN m (beN l))) ∧ Fr Nob w w' := by
 have HK := qH hk
 have HOK := qH hk.ok
 clear hk
 have HB := qH hb
 have HN := qH (show l.length = n from hb.len)
 clear hb
 have HC := qH hc
 have HNN := qH hn
 have HLM := qH (Nat.lt_trans (Nat.mod_lt (beN l) Bn) HOK.out.lt)
 clear hc hn
 have st0 := St.start Nob w
 go_enter func116, ntmps116
 go_wp2_with (with_reducible refine AA 2 ?_)
 refine aA st0 rfl rfl (z := zAd) Aa (cw 4 0) Af ?_
 intro g2 w1 st1
 clear st0
 go_wp2_with fail
 refine (jK m HK.out _).mono ?_
 rintro e' w2 ⟨gp, rfl, hle, hm, hf2⟩
 have st2 : St Nob w w2 [(g2, cw 4 0, 68), (gp, mdL m, 187)] := st1.new hf2 hm hle
 clear st1 hf2 hm hle
 go_wp2_with fail
 refine (c0W m gp _ HOK.out (st2.at 1 rfl) a n c l (HB.out.still st2.fr) HC.out HNN.out).mono ?_
 rintro e' w3 ⟨rfl, hf3⟩
 have st3 := st2.keep hf3
 clear st2 hf3
 go_wp2_with fail
 refine (kF m gp _ HOK.out (st3.at 1 rfl) (beN l % m.M) HLM.out).mono ?_
 rintro e' w4 ⟨rfl, hf4⟩
 have st4 := st3.keep hf4
 clear st3 hf4
 go_wp2_with (with_reducible refine AA 10 ?_)
 refine cD rfl rfl _ (uI _) ?_
 go_wp2_with (with_reducible refine AB ?_)
 refine aB st4 0 rfl rfl rfl rfl rfl Ah Ad (aF _ _) ?_
 intro w5 st5
 clear st4
 have hr := st5.at 0 rfl
 have hfr := st5.fr
 clear st5
 go_wp2_with fail
 exact bodyPost_ret (aY rfl rfl hr underlying68 rfl Ad) rfl ⟨by rw [b0v]; rfl, hfr⟩
end
section
open Go.RowKit Go.Mv Mvp
attribute [local irreducible] bI lw mix cw cT dG cS bQ aO beN dO cI dI bM bT elN mdL dE cL
end
end Go.Proofs.YtemcankmggmgoaaGreat
namespace Go.Mv
open Go.RowKit
theorem o0u {w : World} {b o n : Nat} {vs : List Value} (h : Rd w (some ⟨b, o, none⟩) n vs) (k : Nat) (cs : List Value) (hcs : (vs.drop k).take cs.length = cs) : At w b (o + k) cs := by
 intro i v hv
 rcases h.2 with h0 | ⟨b', o', he, hc⟩
 ·have hl := h.len
  rw [h0] at hl
  rw [List.length_eq_zero_iff.1 hl] at hcs
  simp at hcs
  subst hcs
  simp at hv
 ·simp only [Option.some.injEq, Addr.mk.injEq] at he
  obtain ⟨rfl, rfl, -⟩ := he
  have := hc.sub k cs.length
  rw [hcs] at this
  exact this i v hv
theorem sJ {w : World} {b o n : Nat} {vs : List Value} (h : Rd w (some ⟨b, o, none⟩) n vs) (k : Nat) (cs : List Value) (hcs : (vs.drop k).take cs.length = cs) : w.rangeAt b (o + k) cs :=
 fun i v hv => o0u h k cs hcs i v hv
end Go.Mv
namespace Go.Proofs.YtemcankmggmgoaaGreat
open Go.RowKit Go.Mv Mvp
attribute [local irreducible] bI lw mix cw cT dG cS bQ aO beN dO cI dI bM bT elN mdL dE cL
end Go.Proofs.YtemcankmggmgoaaGreat
namespace Mvp
theorem i0m (N i : Nat) : lw (N / 2) i = lw N i / 2 ||| (lw N (i + 1) * 9223372036854775808 % 18446744073709551616) := by
 have h1 : lw N (i + 1) * 9223372036854775808 % 18446744073709551616 = 2 ^ 63 * (lw N (i + 1) % 2) := by
  have : (18446744073709551616 : Nat) = 9223372036854775808 * 2 := by decide
  rw [this, Nat.mul_comm, Nat.mul_mod_mul_left]
 have h2 : lw N i / 2 < 2 ^ 63 := by have := gO N i; omega
 rw [h1, Nat.or_comm, ← Nat.two_pow_add_eq_or_of_lt h2]
 have e1 : lw N (i + 1) = N / B64 ^ i / 18446744073709551616 % 18446744073709551616 := by
  unfold lw
  rw [Nat.pow_succ, ← Nat.div_div_eq_div_mul]
 have e2 : lw (N / 2) i = N / B64 ^ i / 2 % 18446744073709551616 := by
  unfold lw
  rw [Nat.div_div_eq_div_mul, Nat.mul_comm, ← Nat.div_div_eq_div_mul]
 have e3 : lw N i = N / B64 ^ i % 18446744073709551616 := rfl
 rw [e1, e2, e3]
 generalize N / B64 ^ i = x
 omega
theorem zL (n q k b : Nat) (hq : q < 2 ^ k) (hb : b < 2) (hk : k / 64 < n) : (bI n q).set (k / 64) (lw q (k / 64) ||| b * 2 ^ (k % 64)) = bI n (q + b * 2 ^ k) := by
 have e0 : 2 ^ k = B64 ^ (k / 64) * 2 ^ (k % 64) := by
  rw [show B64 = 2 ^ 64 from rfl, ← Nat.pow_mul, ← Nat.pow_add]
  congr 1; omega
 have hj : q / B64 ^ (k / 64) < 2 ^ (k % 64) := Nat.div_lt_of_lt_mul (by rw [← e0]; exact hq)
 have hr : 2 ^ (k % 64) * 2 ≤ B64 := by
  rw [← Nat.pow_succ, show B64 = 2 ^ 64 from rfl]
  exact Nat.pow_le_pow_right Ac Ab
 have hy : b * 2 ^ (k % 64) ≤ 2 ^ (k % 64) := by
  have := Nat.mul_le_mul_right (2 ^ (k % 64)) (show b ≤ 1 by omega)
  rwa [Nat.one_mul] at this
 rw [e0, Nat.mul_left_comm b]
 apply List.ext_getElem?
 intro i
 rw [List.getElem?_set, dN]
 rcases Nat.lt_or_ge i n with hi | hi
 ·rw [gJ _ _ _ hi, gJ _ _ _ hi]
  rcases Nat.lt_trichotomy i (k / 64) with h | h | h
  ·rw [if_neg Ab, tV _ _ _ _ h]
  ·subst h
   rw [if_pos rfl, if_pos hi]
   congr 1
   have h2 := gQ q (b * 2 ^ (k % 64)) (k / 64) 0
   rw [Nat.add_zero] at h2
   rw [h2]
   rw [Nat.mul_comm b] at hy h2 ⊢
   have h3 : lw q (k / 64) = q / B64 ^ (k / 64) := Nat.mod_eq_of_lt (by generalize q / B64 ^ (k / 64) = y at *; generalize 2 ^ (k % 64) = z at *; omega)
   rw [h3, Nat.or_comm, ← Nat.two_pow_add_eq_or_of_lt hj]
   simp only [lw, Nat.pow_zero, Nat.div_one]
   generalize q / B64 ^ (k / 64) = y at *
   generalize 2 ^ (k % 64) * b = u at *
   generalize 2 ^ (k % 64) = z at *
   rw [Nat.add_comm]
   exact (Nat.mod_eq_of_lt Ab).symm
  ·rw [if_neg Ab]
   congr 1
   obtain ⟨j, rfl⟩ : ∃ j, i = k / 64 + (1 + j) := ⟨i - k / 64 - 1, by omega⟩
   rw [gQ, ← gD q]
   rw [iP (q / B64 ^ (k / 64)) 1 _ (by rw [Nat.pow_one]; omega) Ab, iP _ 1 _ (by rw [Nat.pow_one]; omega) Ab]
 ·rw [if_neg Ab, List.getElem?_eq_none (by rw [dN]; exact hi), List.getElem?_eq_none (by rw [dN]; exact hi)]
theorem mN (P k : Nat) : P / 4 % 2 ^ (k + 1) = P / 4 % 2 ^ k + (P / 2 ^ (k + 2) % 2) * 2 ^ k := by
 have e : P / 2 ^ (k + 2) = P / 4 / 2 ^ k := by
  rw [Nat.div_div_eq_div_mul, Nat.pow_add, Nat.mul_comm]
 rw [e, Nat.pow_succ, Nat.mod_mul, Nat.mul_comm (2 ^ k)]
end Mvp
namespace Go.Mv
open Go.RowKit Mvp
variable {P : Program}
theorem zM {t e : TypeId} (hu : P.underlying t = some (.array 4 e)) (he : P.underlying e = some (.int .u64)) (hi0 : (P.info? e).map (·.size) = some 1) (a b : Nat) (w : World) :
  (Op.equal t (.agg (cw 4 a).toArray) (.agg (cw 4 b).toArray)).run P w = .ok (decide (a % B64 ^ 4 = b % B64 ^ 4)) w := by
 obtain ⟨j, hj, hsz⟩ : ∃ j, P.info? e = some j ∧ j.size = 1 := by simpa using hi0
 have hc : P.cellsOf e = 1 := by simp [Program.cellsOf, hj, hsz]
 have hp : ∀ (x k : Nat), k < 4 → (part e (cw 4 x).toArray k).run P w = .ok (.int .u64 (lw x k : Nat)) w := by
  intro x k hk
  have hv := bL 4 x k hk
  simp [part, isAgg, run_underlying he, sizeOf, typeInfo, hj, hsz, hv]
 have hq0 : ∀ (d : Nat) (x y : Int), (Op.equalIn (d + 1) e (.int .u64 x) (.int .u64 y)).run P w = .ok (x == y) w := fun d x y => by
  simp [Op.equalIn, run_underlying he]
 have hq : ∀ x y : Int, (Op.equalIn 9999 e (.int .u64 x) (.int .u64 y)).run P w = .ok (x == y) w := hq0 9998
 have hbe : ∀ k, ((lw a k : Int) == (lw b k : Int)) = decide (lw a k = lw b k) := by
  intro k
  rw [Bool.eq_iff_iff]; simp; omega
 show (Op.equalIn (9999 + 1) t _ _).run P w = _
 rw [run_equalIn_array w 9999 _ _ hu hj, hc]
 have hfin : decide (a % B64 ^ 4 = b % B64 ^ 4) = (decide (lw a 0 = lw b 0) && (decide (lw a 1 = lw b 1) && (decide (lw a 2 = lw b 2) && decide (lw a 3 = lw b 3)))) := by
  rw [Bool.eq_iff_iff]
  simp only [decide_eq_true_eq, Bool.and_eq_true]
  constructor
  ·intro h
   refine ⟨?_, ?_, ?_, ?_⟩ <;> (rw [← mE a _ 4 Ac, h, mE b _ 4 Ac])
  ·rintro ⟨h0, h1, h2, h3⟩
   refine lD (mF fun i hi => ?_)
   have : i = 0 ∨ i = 1 ∨ i = 2 ∨ i = 3 := by omega
   rcases this with rfl | rfl | rfl | rfl <;> assumption
 rw [hfin]
 show (Op.eqItems 9999 e 1 _ _ [0, 1, 2, 3]).run P w = _
 have p0 := fun x => hp x 0 Ac
 have p1 := fun x => hp x 1 Ac
 have p2 := fun x => hp x 2 Ac
 have p3 := fun x => hp x 3 Ac
 clear hp hq0 hfin
 by_cases h0 : lw a 0 = lw b 0 <;> by_cases h1 : lw a 1 = lw b 1 <;> by_cases h2 : lw a 2 = lw b 2 <;> by_cases h3 : lw a 3 = lw b 3 <;> simp [Op.eqItems, p0, p1, p2, p3, hq, hbe, h0, h1, h2, h3, -beq_iff_eq]
end Go.Mv
namespace Go.Proofs.YtemcankmggmgoaaGreat
open Go.RowKit Go.Mv Mvp
attribute [local irreducible] bI lw mix cw cT dG cS bQ aO beN dO cI dI bM bT elN
theorem uJ (N : Nat) (w : World) (hN : N < B64 ^ 4) :
  Calls prog 206 #[i4 N, .int .i64 2] w fun e w' => e = .returned (i4 (N / 4)) ∧ Fr Nob w w' := by
 have HN := qH hN; clear hN
 have st0 := St.start Nob w
 go_enter func206, ntmps206
 go_wp2_with (with_reducible refine AA 2 ?_)
 refine aL st0 rfl rfl rfl (cw 4 N) rfl ?_
 intro g2 w1 st1
 clear st0
 go_wp2_with (with_reducible refine AA 4 ?_)
 refine aA st1 rfl rfl (z := zAd) Aa (cw 4 0) Af ?_
 intro g4 w2 st2
 clear st1
 go_wp2
 go_loopw [7] (fun i wr => ∃ j : Nat, j ≤ 2 ∧ i = .int .i64 (j : Int) ∧ St Nob w wr [(g2, cw 4 (N / 2 ^ j), 111), (g4, cw 4 0, 111)]) (fun i _ => 2 - (intOf i).toNat)
 case atStart => exact ⟨0, by omega, rfl, by rw [Nat.pow_zero, Nat.div_one]; exact st2⟩
 case round =>
  obtain ⟨j, hj, rfl, st⟩ := hrel
  clear st2
  by_cases hlt : j < 2
  ·have hltJ : (j : Int) < 2 := by omega
   have hV : N / 2 ^ j < B64 ^ 4 := Nat.lt_of_le_of_lt (Nat.div_le_self _ _) HN.out
   have hnext : N / 2 ^ (j + 1) = N / 2 ^ j / 2 := by rw [Nat.pow_succ, Nat.div_div_eq_div_mul]
   generalize hVe : N / 2 ^ j = V at *
   have HNEXT := qH hnext; have HV := qH hV; clear hnext hV hVe
   go_wp2
   go_loopw [9] (fun i wr => ∃ k : Nat, k ≤ 4 ∧ i = .int .i64 (k : Int) ∧ St Nob w wr [(g2, cw 4 (mix (V / 2) V k), 111), (g4, cw 4 0, 111)]) (fun i _ => 4 - (intOf i).toNat)
   case atStart => exact ⟨0, by omega, rfl, by rw [jW]; exact st⟩
   case round =>
    obtain ⟨k, hk, rfl, stk⟩ := hrel
    clear st
    by_cases hltk : k < 4
    ·have hltK : (k : Int) < 4 := by omega
     have c1 : wr.cell? ⟨g2, k, none⟩ = some (.int .u64 (lw V k : Nat)) := by have h := (stk.at 0 rfl).cell (bL 4 (mix (V / 2) V k) k hltk); rwa [rF, if_neg (Nat.lt_irrefl k)] at h
     have f1 := (stk.at 0 rfl).free k (by rw [aT]; exact hltk)
     have stm := stk.set 0 rfl k (.int .u64 ((lw V k : Int) / 2))
     have hhw := i0m V k
     have hor : bits .or .u64 ((lw V k : Int) / 2) (IntKind.u64.wrap ((lw V (k + 1) : Int) * 9223372036854775808)) = ((lw (V / 2) k : Nat) : Int) := by
      have h := bits_or_u64_nat (lw V k / 2) (lw V (k + 1) * 9223372036854775808 % 18446744073709551616) (Nat.lt_of_le_of_lt (Nat.div_le_self _ _) (gO _ _)) (Nat.mod_lt _ Ac)
      rw [hhw, ← h, IntKind.wrap_u64]
      rfl
     have HOR := qH hor
     clear hor
     have STM := qH stm
     have HSET := qH (jX 4 (V / 2) V k hltk)
     by_cases h3 : k < 3
     ·have h3I : (k : Int) < 3 := by omega
      have c2 := (stm.at 0 rfl).cell (i := k) (v := .int .u64 ((lw V k : Int) / 2)) (by rw [List.getElem?_set_self (by rw [aT]; exact hltk)])
      have c3 := (stm.at 0 rfl).cell (i := k + 1) (v := .int .u64 (lw V (k + 1) : Nat)) (by rw [List.getElem?_set_ne Ab, bL 4 _ (k + 1) Ab, rF, if_neg Ab])
      have f2 := (stm.at 0 rfl).free k (by rw [List.length_set, aT]; exact hltk)
      have e1 : IntKind.i64.wrap ((k : Int) + 1) = (k : Int) + 1 := IntWalk.i64_in _ Ab
      have e4 : ((k : Int) + 1).toNat = k + 1 := by omega
      have hlo : (0 : Int) ≤ (k : Int) + 1 ∧ (k : Int) + 1 < 4 := by omega
      clear stm stk
      go_wp2_with fail
      generalize hwm : wr.setCell ⟨g2, k, none⟩ (.int .u64 ((lw V k : Int) / 2)) = wm at *
      clear hwm c1 f1
      refine wp_region_still_tail 10 Aa Aa ?_
      simp only [List.take_succ_cons, List.take_zero, List.drop_succ_cons, List.drop_zero]
      repeat still_step
      refine wpStill_nil ?_
      have hst := (STM.out.set 0 rfl k (.int .u64 (bits .or .u64 ((lw V k : Int) / 2) (IntKind.u64.wrap ((lw V (k + 1) : Int) * 9223372036854775808))))).drew
      rw [HOR.out] at hst
      simp only [List.set_cons_zero, List.set_set] at hst
      rw [HSET.out] at hst
      have HST := qH hst
      clear hst
      go_wp2
      go_roundw
      case rel => exact ⟨k + 1, by omega, by go_num, by rw [HOR.out]; exact HST.out⟩
      case measure => simp [intOf]; omega
     ·have h3I : ¬ ((k : Int) < 3) := by omega
      have hk3 : k = 3 := by omega
      have hz : lw V (k + 1) = 0 := iP V 4 _ HV.out Ab
      have hst := STM.out
      rw [hz, Nat.zero_mul, Nat.zero_mod, Nat.or_zero] at hhw
      rw [show ((lw V k : Int) / 2) = ((lw (V / 2) k : Nat) : Int) by rw [hhw]; rfl] at hst
      simp only [List.set_cons_zero] at hst
      rw [HSET.out] at hst
      rw [show ((lw (V / 2) k : Nat) : Int) = ((lw V k : Int) / 2) by rw [hhw]; rfl] at hst
      have HST := qH hst
      clear hst stm hhw hz hk3 stk
      go_wp2
      go_roundw
      case rel => exact ⟨k + 1, by omega, by go_num, HST.out⟩
      case measure => simp [intOf]; omega
    ·have hge : ¬ ((k : Int) < 4) := by omega
     have hk4 : k = 4 := by omega
     rw [hk4, sD, ← HNEXT.out] at stk
     clear hk4
     go_wp2
     go_roundw
     case rel => exact ⟨j + 1, by omega, by go_num, stk⟩
     case measure => simp [intOf]; omega
  ·have hge : ¬ ((j : Int) < 2) := by omega
   have hj2 : j = 2 := by omega
   rw [hj2] at st
   clear hj2
   go_wp2_with (with_reducible refine AA 31 ?_)
   refine aI st 0 rfl rfl rfl underlying111 rfl As ?_
   go_wp2_with (with_reducible refine AB ?_)
   refine aB st 1 rfl rfl rfl rfl rfl Bj As (aF _ _) ?_
   intro w9 st9
   clear st
   have hr := st9.at 1 rfl
   have hfr := st9.fr
   clear st9
   go_wp2
   exact bodyPost_ret (aX rfl rfl hr underlying111 As) rfl ⟨rfl, hfr⟩
end Go.Proofs.YtemcankmggmgoaaGreat
namespace Mvp
def rtN (M x : Nat) : Nat := x ^ (M / 4 + 1)
def dW (M x : Nat) : Bool := rtN M x * rtN M x % M == x % M
def rtV (M x : Nat) : Nat := if rtN M x % M % 2 = 1 then M - rtN M x % M else rtN M x
end Mvp
namespace Go.Proofs.YtemcankmggmgoaaGreat
open Go.RowKit Go.Mv Mvp
theorem q0J (m : Md) (h : m.Ok) (x y : Nat) (ty : TypeId) (hu : prog.underlying ty = some (.array 4 58)) (w : World) :
  (Op.equal ty (i4 (elN m x)) (.agg (cw 4 (elN m y)).toArray)).run prog w = .ok (x % m.M == y % m.M) w := by
 have hb : decide (elN m x % B64 ^ 4 = elN m y % B64 ^ 4) = (x % m.M == y % m.M) := by
  rw [Nat.mod_eq_of_lt (b0u m h x), Nat.mod_eq_of_lt (b0u m h y), Bool.eq_iff_iff]
  simp only [decide_eq_true_eq, beq_iff_eq]
  exact ⟨q0A m h, zI m⟩
 rw [← hb]
 exact zM hu underlying58 iA _ _ w
theorem e0y (x y : Nat) (ty : TypeId) (hg : prog.eqGuardType prog.depth ty = false) (a b : Operand) (w : World) :
  (eqGuard .neq ty a b (i4 x) (.agg (cw 4 y).toArray)).run prog w = .ok () w := run_eqGuard_agg w .neq ty a b _ _ hg
theorem q0K (m : Md) (h : m.Ok) (x y : Nat) (ty : TypeId) (hu : prog.underlying ty = some (.array 4 58)) (w : World) :
  (binOp .neq ty (i4 (elN m x)) (.agg (cw 4 (elN m y)).toArray)).run prog w = .ok (.bool !(x % m.M == y % m.M)) w := by
 show (do pure (Value.bool (!(← Op.equal ty (i4 (elN m x)) (.agg (cw 4 (elN m y)).toArray))))).run prog w = _
 simp only [Sem.run_bind, q0J m h x y ty hu, Result.andThen_ok]
 rfl
theorem zO (m : Md) (h : m.Ok) (x y : Nat) (ty : TypeId) (hu : prog.underlying ty = some (.array 4 58)) (hg : prog.eqGuardType prog.depth ty = false) {o : Oper} {a : Act} {w : World} {K : Act → World → Prop} {Q : Exit → Act → World → Prop} {p q : Operand} {T : TypeId}
  (ho : o.op = .binOp .neq ty p q T) (hp : a.eval p = i4 (elN m x)) (hq : a.eval q = .agg (cw 4 (elN m y)).toArray) {b : Bool} (hb : (x % m.M == y % m.M) = b) (hk : K (a.put o.dst (.bool !b)) w) : o.wp prog a w K Q := by
 have h1 := e0y (elN m x) (elN m y) ty hg p q w
 have h2 := q0K m h x y ty hu w
 rw [hb] at h2
 unfold Oper.wp execOp
 simp only [ho, hp, hq, Sem.run_bind, h1, h2, Result.andThen_ok, Sem.run_pure]
 exact hk
theorem e0z (v : Nat) (w : World) : (Instr.index 111 (i4 v) (.int .i64 0)).run prog w = .ok (.int .u64 (lw v 0 : Nat)) w :=
 mH (P := prog) underlying111 underlying58 iA v 0 Ac .i64 w
theorem uK (v : Nat) : bits .and .u64 (lw v 0 : Nat) 1 = ((v % 2 : Nat) : Int) := by
 have ha := bits_and_u64_nat (lw v 0) 1 (gO _ _) Ab
 rw [Nat.and_one_is_mod, f0Q] at ha
 rw [f0Q]
 refine Eq.trans ha ?_
 congr 1
 omega
attribute [local irreducible] bI lw mix cw cT dG cS bQ aO beN dO cI dI bM bT elN
theorem g0b (m : Md) (gp : Nat) (w : World) (hok : m.Ok) (hpm : Has w gp (mdL m) 187) (x n : Nat) (hn : m.M / 4 + 1 = n) (hr : ((x ^ n) * (x ^ n) % m.M == x % m.M) = false) :
  Calls prog 198 #[.pointer (some ⟨gp, 0, none⟩), i4 (elN m x)] w fun e w' => e = .returned (.tuple #[i4 0, .bool false]) ∧ Fr Nob w w' := by
 have HOK := qH hok
 have HPM := qH hpm
 clear hok hpm
 have HE4 := qH (show n < B64 ^ 4 by subst hn; have := HOK.out.lt; have := HOK.out.one; omega)
 have h1p := fun wx => pB (m.M / 4) 1 wx
 rw [← dY 1 Ac, hn] at h1p
 clear hn
 have H1P := qH h1p
 clear h1p
 have HR := qH hr
 clear hr
 have st0 := St.start Nob w
 go_enter func198, ntmps198
 go_wp2_with (with_reducible refine AA 3 ?_)
 refine aL st0 rfl rfl rfl (cw 4 (elN m x)) rfl ?_
 intro g3 w1 st1
 clear st0
 go_wp2_with (with_reducible refine AA 4 ?_)
 refine aA st1 rfl rfl (z := zAd) Aa (cw 4 0) Af ?_
 intro g4 w2 st2
 clear st1
 go_wp2_with (with_reducible refine AA 13 ?_)
 refine fA rfl rfl underlying111 rfl (HPM.out.keep st2.fr id) (cw 4 m.M) (c0o m) Ad ?_
 go_wp2_with fail
 refine (uJ m.M _ HOK.out.lt).mono ?_
 rintro e' w3 ⟨rfl, hf3⟩
 have st3 := st2.keep hf3
 clear st2 hf3
 go_wp2_with fail
 refine (H1P.out _).mono ?_
 rintro e' w4 ⟨rfl, hf4⟩
 have st4 := st3.keep hf4
 clear st3 hf4
 go_wp2_with (with_reducible refine AA 6 ?_)
 refine aA st4 rfl rfl (z := zAd) Aa (cw 4 0) Af ?_
 intro g6 w5 st5
 clear st4
 go_wp2_with (with_reducible refine AB ?_)
 refine aB st5 2 rfl rfl rfl rfl rfl Ah Ad (aF _ _) ?_
 intro w6 st6
 clear st5
 go_wp2_with (with_reducible refine AA 20 ?_)
 refine aI st6 0 rfl rfl rfl underlying66 rfl Ad ?_
 go_wp2_with (with_reducible refine AA 21 ?_)
 refine aI st6 2 rfl rfl rfl underlying111 rfl Ad ?_
 go_wp2_with fail
 refine (sI m gp _ HOK.out (HPM.out.keep st6.fr id) x n HE4.out).mono ?_
 rintro e' w7 ⟨rfl, hf7⟩
 have st7 := st6.keep hf7
 clear st6 hf7
 go_wp2_with (with_reducible refine AA 8 ?_)
 refine aA st7 rfl rfl (z := zAd) Aa (cw 4 0) Af ?_
 intro g8 w8 st8
 clear st7
 go_wp2_with (with_reducible refine AB ?_)
 refine aB st8 3 rfl rfl rfl rfl rfl Ah Ad (aF _ _) ?_
 intro w9 st9
 clear st8
 go_wp2_with fail
 refine wp_region_noPanic ?_
 refine aP (fun wx => St Nob w wx [(g3, cw 4 (elN m x), 66), (g4, cw 4 0, 66), (g6, cw 4 n, 111), (g8, cw 4 (elN m (x ^ n)), 66)]) 4 (.w 0 (.t 1 (.t 3 (.r 2 (.m 4 .nil))))) Aa Aa st9.drew (fun _ _ _ _ _ h => h) ?_
 have hd9 := st9.drew
 clear st9
 refine aJ rfl rfl apW ?_
 try simp only [J]
 refine aV rfl rfl rfl rfl (cw 4 (elN m (x ^ n))) (fun wx hS => St.rangeL hS 3 rfl 0 _ dZl) underlying66 rfl Ad ?_
 try simp only [J]
 refine aV rfl rfl rfl rfl (cw 4 (elN m x)) (fun wx hS => St.rangeL hS 0 rfl 0 _ dZl) underlying66 rfl Ad ?_
 try simp only [J]
 refine bC rfl rfl ?_
 go_simp
 refine (jJ m gp _ HOK.out (HPM.out.keep hd9.fr id) (x ^ n)).mono ?_
 rintro e' w10 ⟨rfl, hf10⟩
 have st10 := hd9.keep hf10
 clear hf10
 clear hd9
 refine ⟨st10, ?_⟩
 try simp only [J]
 refine aU rfl rfl ?_
 refine zO m HOK.out ((x ^ n) * (x ^ n)) x 66 underlying66 Tryz.eqGuardType66 rfl rfl rfl HR.out ?_
 try simp only [J]
 refine aH ?_
 refine NoPanic.normal ?_
 go_wp2_with (with_reducible refine AB ?_)
 refine aB st10 1 rfl rfl rfl rfl (cs := cw 4 0) Af Ah Ad (aF _ _) ?_
 intro w11 st11
 clear st10
 have hr := st11.at 1 rfl
 have hfr := st11.fr
 clear st11
 go_wp2_with fail
 exact bodyPost_ret (cB rfl rfl hr underlying66 Ad rfl) rfl ⟨rfl, hfr⟩
theorem g0c (m : Md) (gp : Nat) (w : World) (hok : m.Ok) (hpm : Has w gp (mdL m) 187) (x n : Nat) (hn : m.M / 4 + 1 = n) (hr : ((x ^ n) * (x ^ n) % m.M == x % m.M) = true) (hb : (x ^ n) % m.M % 2 = 0) :
  Calls prog 198 #[.pointer (some ⟨gp, 0, none⟩), i4 (elN m x)] w fun e w' => e = .returned (.tuple #[i4 (elN m (x ^ n)), .bool true]) ∧ Fr Nob w w' := by
 have HOK := qH hok
 have HPM := qH hpm
 clear hok hpm
 have HB := qH hb
 have HE4 := qH (show n < B64 ^ 4 by subst hn; have := HOK.out.lt; have := HOK.out.one; omega)
 have h1p := fun wx => pB (m.M / 4) 1 wx
 rw [← dY 1 Ac, hn] at h1p
 clear hn
 have H1P := qH h1p
 clear h1p
 have HR := qH hr
 clear hr
 clear hb
 have st0 := St.start Nob w
 go_enter func198, ntmps198
 go_wp2_with (with_reducible refine AA 3 ?_)
 refine aL st0 rfl rfl rfl (cw 4 (elN m x)) rfl ?_
 intro g3 w1 st1
 clear st0
 go_wp2_with (with_reducible refine AA 4 ?_)
 refine aA st1 rfl rfl (z := zAd) Aa (cw 4 0) Af ?_
 intro g4 w2 st2
 clear st1
 go_wp2_with (with_reducible refine AA 13 ?_)
 refine fA rfl rfl underlying111 rfl (HPM.out.keep st2.fr id) (cw 4 m.M) (c0o m) Ad ?_
 go_wp2_with fail
 refine (uJ m.M _ HOK.out.lt).mono ?_
 rintro e' w3 ⟨rfl, hf3⟩
 have st3 := st2.keep hf3
 clear st2 hf3
 go_wp2_with fail
 refine (H1P.out _).mono ?_
 rintro e' w4 ⟨rfl, hf4⟩
 have st4 := st3.keep hf4
 clear st3 hf4
 go_wp2_with (with_reducible refine AA 6 ?_)
 refine aA st4 rfl rfl (z := zAd) Aa (cw 4 0) Af ?_
 intro g6 w5 st5
 clear st4
 go_wp2_with (with_reducible refine AB ?_)
 refine aB st5 2 rfl rfl rfl rfl rfl Ah Ad (aF _ _) ?_
 intro w6 st6
 clear st5
 go_wp2_with (with_reducible refine AA 20 ?_)
 refine aI st6 0 rfl rfl rfl underlying66 rfl Ad ?_
 go_wp2_with (with_reducible refine AA 21 ?_)
 refine aI st6 2 rfl rfl rfl underlying111 rfl Ad ?_
 go_wp2_with fail
 refine (sI m gp _ HOK.out (HPM.out.keep st6.fr id) x n HE4.out).mono ?_
 rintro e' w7 ⟨rfl, hf7⟩
 have st7 := st6.keep hf7
 clear st6 hf7
 go_wp2_with (with_reducible refine AA 8 ?_)
 refine aA st7 rfl rfl (z := zAd) Aa (cw 4 0) Af ?_
 intro g8 w8 st8
 clear st7
 go_wp2_with (with_reducible refine AB ?_)
 refine aB st8 3 rfl rfl rfl rfl rfl Ah Ad (aF _ _) ?_
 intro w9 st9
 clear st8
 go_wp2_with fail
 refine wp_region_noPanic ?_
 refine aP (fun wx => St Nob w wx [(g3, cw 4 (elN m x), 66), (g4, cw 4 0, 66), (g6, cw 4 n, 111), (g8, cw 4 (elN m (x ^ n)), 66)]) 4 (.w 0 (.t 1 (.t 3 (.r 2 (.m 4 .nil))))) Aa Aa st9.drew (fun _ _ _ _ _ h => h) ?_
 have hd9 := st9.drew
 clear st9
 refine aJ rfl rfl apW ?_
 try simp only [J]
 refine aV rfl rfl rfl rfl (cw 4 (elN m (x ^ n))) (fun wx hS => St.rangeL hS 3 rfl 0 _ dZl) underlying66 rfl Ad ?_
 try simp only [J]
 refine aV rfl rfl rfl rfl (cw 4 (elN m x)) (fun wx hS => St.rangeL hS 0 rfl 0 _ dZl) underlying66 rfl Ad ?_
 try simp only [J]
 refine bC rfl rfl ?_
 go_simp
 refine (jJ m gp _ HOK.out (HPM.out.keep hd9.fr id) (x ^ n)).mono ?_
 rintro e' w10 ⟨rfl, hf10⟩
 have st10 := hd9.keep hf10
 clear hf10
 clear hd9
 refine ⟨st10, ?_⟩
 try simp only [J]
 refine aU rfl rfl ?_
 refine zO m HOK.out ((x ^ n) * (x ^ n)) x 66 underlying66 Tryz.eqGuardType66 rfl rfl rfl HR.out ?_
 try simp only [J]
 refine aH ?_
 refine NoPanic.normal ?_
 have hix := fun wx => e0z ((x ^ n) % m.M) wx
 have hla := uK ((x ^ n) % m.M)
 rw [HB.out] at hla
 go_wp2_with (with_reducible refine AA 30 ?_)
 refine aI st10 3 rfl rfl rfl underlying66 rfl Ad ?_
 go_wp2_with fail
 refine (mM m gp _ HOK.out (HPM.out.keep st10.fr id) (x ^ n)).mono ?_
 rintro e' w11 ⟨rfl, hf11⟩
 have st11 := st10.keep hf11
 clear st10 hf11
 go_wp2_with (with_reducible refine AA 38 ?_)
 refine aI st11 3 rfl rfl rfl underlying66 rfl Ad ?_
 go_wp2_with (with_reducible refine AB ?_)
 refine aB st11 1 rfl rfl rfl rfl rfl Ah Ad (aF _ _) ?_
 intro w12 st12
 clear st11
 have hr := st12.at 1 rfl
 have hfr := st12.fr
 clear st12
 go_wp2_with fail
 exact bodyPost_ret (cB rfl rfl hr underlying66 Ad rfl) rfl ⟨rfl, hfr⟩
theorem i0n (m : Md) (gp : Nat) (w : World) (hok : m.Ok) (hpm : Has w gp (mdL m) 187) (x n : Nat) (hn : m.M / 4 + 1 = n) (hr : ((x ^ n) * (x ^ n) % m.M == x % m.M) = true) (hb : (x ^ n) % m.M % 2 = 1) :
  Calls prog 198 #[.pointer (some ⟨gp, 0, none⟩), i4 (elN m x)] w fun e w' => e = .returned (.tuple #[i4 (elN m (m.M - (x ^ n) % m.M)), .bool true]) ∧ Fr Nob w w' := by
 have HOK := qH hok
 have HPM := qH hpm
 clear hok hpm
 have HB := qH hb
 have HE4 := qH (show n < B64 ^ 4 by subst hn; have := HOK.out.lt; have := HOK.out.one; omega)
 have h1p := fun wx => pB (m.M / 4) 1 wx
 rw [← dY 1 Ac, hn] at h1p
 clear hn
 have H1P := qH h1p
 clear h1p
 have HR := qH hr
 clear hr
 clear hb
 have st0 := St.start Nob w
 go_enter func198, ntmps198
 go_wp2_with (with_reducible refine AA 3 ?_)
 refine aL st0 rfl rfl rfl (cw 4 (elN m x)) rfl ?_
 intro g3 w1 st1
 clear st0
 go_wp2_with (with_reducible refine AA 4 ?_)
 refine aA st1 rfl rfl (z := zAd) Aa (cw 4 0) Af ?_
 intro g4 w2 st2
 clear st1
 go_wp2_with (with_reducible refine AA 13 ?_)
 refine fA rfl rfl underlying111 rfl (HPM.out.keep st2.fr id) (cw 4 m.M) (c0o m) Ad ?_
 go_wp2_with fail
 refine (uJ m.M _ HOK.out.lt).mono ?_
 rintro e' w3 ⟨rfl, hf3⟩
 have st3 := st2.keep hf3
 clear st2 hf3
 go_wp2_with fail
 refine (H1P.out _).mono ?_
 rintro e' w4 ⟨rfl, hf4⟩
 have st4 := st3.keep hf4
 clear st3 hf4
 go_wp2_with (with_reducible refine AA 6 ?_)
 refine aA st4 rfl rfl (z := zAd) Aa (cw 4 0) Af ?_
 intro g6 w5 st5
 clear st4
 go_wp2_with (with_reducible refine AB ?_)
 refine aB st5 2 rfl rfl rfl rfl rfl Ah Ad (aF _ _) ?_
 intro w6 st6
 clear st5
 go_wp2_with (with_reducible refine AA 20 ?_)
 refine aI st6 0 rfl rfl rfl underlying66 rfl Ad ?_
 go_wp2_with (with_reducible refine AA 21 ?_)
 refine aI st6 2 rfl rfl rfl underlying111 rfl Ad ?_
 go_wp2_with fail
 refine (sI m gp _ HOK.out (HPM.out.keep st6.fr id) x n HE4.out).mono ?_
 rintro e' w7 ⟨rfl, hf7⟩
 have st7 := st6.keep hf7
 clear st6 hf7
 go_wp2_with (with_reducible refine AA 8 ?_)
 refine aA st7 rfl rfl (z := zAd) Aa (cw 4 0) Af ?_
 intro g8 w8 st8
 clear st7
 go_wp2_with (with_reducible refine AB ?_)
 refine aB st8 3 rfl rfl rfl rfl rfl Ah Ad (aF _ _) ?_
 intro w9 st9
 clear st8
 go_wp2_with fail
 refine wp_region_noPanic ?_
 refine aP (fun wx => St Nob w wx [(g3, cw 4 (elN m x), 66), (g4, cw 4 0, 66), (g6, cw 4 n, 111), (g8, cw 4 (elN m (x ^ n)), 66)]) 4 (.w 0 (.t 1 (.t 3 (.r 2 (.m 4 .nil))))) Aa Aa st9.drew (fun _ _ _ _ _ h => h) ?_
 have hd9 := st9.drew
 clear st9
 refine aJ rfl rfl apW ?_
 try simp only [J]
 refine aV rfl rfl rfl rfl (cw 4 (elN m (x ^ n))) (fun wx hS => St.rangeL hS 3 rfl 0 _ dZl) underlying66 rfl Ad ?_
 try simp only [J]
 refine aV rfl rfl rfl rfl (cw 4 (elN m x)) (fun wx hS => St.rangeL hS 0 rfl 0 _ dZl) underlying66 rfl Ad ?_
 try simp only [J]
 refine bC rfl rfl ?_
 go_simp
 refine (jJ m gp _ HOK.out (HPM.out.keep hd9.fr id) (x ^ n)).mono ?_
 rintro e' w10 ⟨rfl, hf10⟩
 have st10 := hd9.keep hf10
 clear hf10
 clear hd9
 refine ⟨st10, ?_⟩
 try simp only [J]
 refine aU rfl rfl ?_
 refine zO m HOK.out ((x ^ n) * (x ^ n)) x 66 underlying66 Tryz.eqGuardType66 rfl rfl rfl HR.out ?_
 try simp only [J]
 refine aH ?_
 refine NoPanic.normal ?_
 have hix := fun wx => e0z ((x ^ n) % m.M) wx
 have hla := uK ((x ^ n) % m.M)
 rw [HB.out] at hla
 go_wp2_with (with_reducible refine AA 30 ?_)
 refine aI st10 3 rfl rfl rfl underlying66 rfl Ad ?_
 go_wp2_with fail
 refine (mM m gp _ HOK.out (HPM.out.keep st10.fr id) (x ^ n)).mono ?_
 rintro e' w11 ⟨rfl, hf11⟩
 have st11 := st10.keep hf11
 clear st10 hf11
 go_wp2_with (with_reducible refine AA 36 ?_)
 refine aI st11 3 rfl rfl rfl underlying66 rfl Ad ?_
 go_wp2_with fail
 refine (zK m gp _ HOK.out (HPM.out.keep st11.fr id) (x ^ n)).mono ?_
 rintro e' w12 ⟨rfl, hf12⟩
 have st12 := st11.keep hf12
 clear st11 hf12
 go_wp2_with (with_reducible refine AB ?_)
 refine aB st12 3 rfl rfl rfl rfl rfl Ah Ad (aF _ _) ?_
 intro w13 st13
 clear st12
 go_wp2_with (with_reducible refine AA 38 ?_)
 refine aI st13 3 rfl rfl rfl underlying66 rfl Ad ?_
 go_wp2_with (with_reducible refine AB ?_)
 refine aB st13 1 rfl rfl rfl rfl rfl Ah Ad (aF _ _) ?_
 intro w14 st14
 clear st13
 have hr := st14.at 1 rfl
 have hfr := st14.fr
 clear st14
 go_wp2_with fail
 exact bodyPost_ret (cB rfl rfl hr underlying66 Ad rfl) rfl ⟨rfl, hfr⟩
end Go.Proofs.YtemcankmggmgoaaGreat
namespace Go.Mv
open Go.RowKit Mvp
variable {P : Program}
end Go.Mv
namespace Go.Proofs.YtemcankmggmgoaaGreat
open Go.RowKit Go.Mv Mvp
theorem mO {P : Program} {ty : TypeId} {xs ys : Array Value} {b : Bool} (w : World) (h : (Op.equal ty (.agg xs) (.agg ys)).run P w = .ok b w) : (binOp .eql ty (.agg xs) (.agg ys)).run P w = .ok (.bool b) w := by
 show (do pure (Value.bool (← Op.equal ty (.agg xs) (.agg ys)))).run P w = _
 simp only [Sem.run_bind, h, Result.andThen_ok]
 rfl
theorem kU {P : Program} {op : BinOp} {ty : TypeId} {o : Oper} {a : Act} {p q : Operand} {T : TypeId} {x y v : Value} (ho : o.op = .binOp op ty p q T) (hp : a.eval p = x) (hq : a.eval q = y) (w : World)
  (h1 : (eqGuard op ty p q x y).run P w = .ok () w) (h2 : (binOp op ty x y).run P w = .ok v w) : (execOp a.eval o).run P w = .ok (.value v) w := by
 subst hp hq
 unfold execOp
 simp only [ho, Sem.run_bind, h1, h2, Result.andThen_ok, Sem.run_pure]
theorem i0o (m : Md) (h : m.Ok) (x y : Nat) {o : Oper} {a : Act} {p q : Operand} {T ty : TypeId} (hu : prog.underlying ty = some (.array 4 58)) (hg : prog.eqGuardType prog.depth ty = false) (ho : o.op = .binOp .eql ty p q T) (hp : a.eval p = i4 (elN m x)) (hq : a.eval q = i4 (elN m y)) {b : Bool} (hb : (x % m.M == y % m.M) = b) (w : World) :
  (execOp a.eval o).run prog w = .ok (.value (.bool b)) w := by
 subst hb
 exact kU ho hp hq w (run_eqGuard_agg w .eql ty p q _ _ hg) (mO w (q0J m h x y ty hu w))
theorem gM {o : Oper} {a : Act} {w : World} {P : Program} {ops : Array Oper} {rest : List Oper} {Q : Exit → Act → World → Prop} {v : Value} (hgd : o.guard = none) (hx : (execOp a.eval o).run P w = .ok (.value v) w) (h : wpList P ops Q rest (a.put o.dst v) w) : wpList P ops Q (o :: rest) a w := by
 refine wpList_plain hgd fun K hK => ?_
 unfold Oper.wp
 rw [hx]
 exact hK _ _ h
attribute [local irreducible] bI lw mix cw cT dG cS bQ aO beN dO cI dI bM bT elN mdL cL
theorem l0e : (Value.agg #[.int .u64 0, .int .u64 0, .int .u64 0, .int .u64 0]) = i4 0 := by rw [i4, mG]; rfl
theorem l0f : prog.built 66 [] = some #[.int .u64 0, .int .u64 0, .int .u64 0, .int .u64 0] := by kernel_rfl
theorem jL (m : Md) (hok : m.Ok) (x : Nat) (b : Bool) (hb : (x % m.M == 0) = b) (w : World) :
  Calls prog 162 #[i4 (elN m x)] w fun e w' => e = .returned (.bool b) ∧ Fr Nob w w' := by
 have HOK := qH hok
 have HB := qH (show (x % m.M == 0 % m.M) = b by rw [Nat.zero_mod]; exact hb)
 have HZ := qH (show i4 0 = i4 (elN m 0) by rw [kE])
 clear hok hb
 have st0 := St.start Nob w
 go_enter func162, ntmps162
 go_wp2_with (with_reducible refine AA 1 ?_)
 refine aL st0 rfl rfl rfl (cw 4 (elN m x)) rfl ?_
 intro g1 w1 st1
 clear st0
 go_wp2_with (with_reducible refine AA 3 ?_)
 refine aI st1 0 rfl rfl rfl underlying66 rfl Ad ?_
 go_wp2_with (with_reducible refine AA 4 ?_)
 refine gI rfl rfl _ l0f ?_
 rw [l0e, HZ.out]
 go_wp2_with (with_reducible refine AA 5 ?_)
 refine gM rfl (i0o m HOK.out x 0 underlying66 Tryz.eqGuardType66 rfl rfl rfl HB.out _) ?_
 have hfr := st1.fr
 clear st1
 go_wp2_with fail
 go_ret
 exact ⟨rfl, hfr⟩
theorem i0p (m : Md) (hok : m.Ok) (x : Nat) (b : Bool) (hb : (x % m.M == 0) = b) (w : World) :
  Calls prog 104 #[i4 (elN m x)] w fun e w' => e = .returned (.bool b) ∧ Fr Nob w w' := by
 have HOK := qH hok
 have HB := qH hb
 clear hok hb
 have st0 := St.start Nob w
 go_enter func104, ntmps104
 go_wp2_with (with_reducible refine AA 1 ?_)
 refine aL st0 rfl rfl rfl (cw 4 (elN m x)) rfl ?_
 intro g1 w1 st1
 clear st0
 go_wp2_with (with_reducible refine AA 4 ?_)
 refine aI st1 0 rfl rfl rfl underlying66 rfl Ad ?_
 go_wp2_with fail
 refine (jL m HOK.out x b HB.out _).mono ?_
 rintro e' w2 ⟨rfl, hf2⟩
 have st2 := st1.keep hf2
 clear st1 hf2
 have hfr := st2.fr
 clear st2
 go_wp2_with fail
 go_ret
 exact ⟨rfl, hfr⟩
theorem g0d (v : Int) : prog.built 111 [(0, .int .u64 v)] = some #[.int .u64 v, .int .u64 0, .int .u64 0, .int .u64 0] := by kernel_rfl
theorem g0e (m : Md) (gp : Nat) (w : World) (hok : m.Ok) (hpm : Has w gp (mdL m) 187) (k : Nat) (hk : k < 18446744073709551616) :
  Calls prog 134 #[.pointer (some ⟨gp, 0, none⟩), .int .u64 (k : Int)] w fun e w' => e = .returned (i4 (elN m k)) ∧ Fr Nob w w' := by
 have HOK := qH hok
 have HPM := qH hpm
 have HW := qH (dY k hk)
 have HK4 := qH (show k < B64 ^ 4 from Nat.lt_of_lt_of_le hk Ac)
 clear hok hpm hk
 have st0 := St.start Nob w
 go_enter func134, ntmps134
 go_wp2_with (with_reducible refine AA 4 ?_)
 refine aA st0 rfl rfl (z := zAd) Aa (cw 4 0) Af ?_
 intro g4 w1 st1
 clear st0
 go_wp2_with (with_reducible refine AA 7 ?_)
 refine cD rfl rfl _ (g0d (k : Int)) ?_
 rw [HW.out]
 go_wp2_with fail
 refine (kF m gp _ HOK.out (HPM.out.keep st1.fr id) k HK4.out).mono ?_
 rintro e' w2 ⟨rfl, hf2⟩
 have st2 := st1.keep hf2
 clear st1 hf2
 go_wp2_with (with_reducible refine AB ?_)
 refine aB st2 0 rfl rfl rfl rfl rfl Ah Ad (aF _ _) ?_
 intro w3 st3
 clear st2
 have hr := st3.at 0 rfl
 have hfr := st3.fr
 clear st3
 go_wp2_with fail
 exact bodyPost_ret (aX rfl rfl hr underlying66 Ad) rfl ⟨rfl, hfr⟩
theorem xG (m : Md) (hk : KindOf 1 m) (x : Nat) (w : World) :
  Calls prog 51 #[i4 (elN m x)] w fun e w' => ∃ v, e = .returned v ∧ Own w' w.heap.size 5 1 v 32 (bs (cI (x % m.M))) ∧ Fr Nob w w' := by
 have HK := qH hk
 have HOK := qH hk.ok
 clear hk
 have st0 := St.start Nob w
 go_enter func51, ntmps51
 go_wp2_with (with_reducible refine AA 1 ?_)
 refine aL st0 rfl rfl rfl (cw 4 (elN m x)) rfl ?_
 intro g1 w1 st1
 clear st0
 go_wp2_with fail
 refine wp_region_noPanic ?_
 refine aP (fun wx => St Nob w wx [(g1, cw 4 (elN m x), 68)]) 5 (.w 1 (.t 2 (.r 0 (.r 3 (.r 4 (.m 5 .nil)))))) Aa Aa st1.drew (fun _ _ _ _ _ h => h) ?_
 have hd1 := st1.drew
 clear st1
 refine aJ rfl rfl apW ?_
 try simp only [J]
 refine aV rfl rfl rfl rfl (cw 4 (elN m x)) (fun wx hS => St.rangeL hS 0 rfl 0 _ dZl) underlying66 rfl Ad ?_
 try simp only [J]
 refine bC rfl rfl ?_
 go_simp
 refine (jK m HK.out _).mono ?_
 rintro e' w2 ⟨gp, rfl, hle, hm, hf2⟩
 have st2 : St Nob w w2 [(g1, cw 4 (elN m x), 68), (gp, mdL m, 187)] := hd1.new hf2 hm hle
 clear hf2 hm hle
 clear hd1
 refine ⟨St.less st2 Ae, ?_⟩
 try simp only [J]
 refine bC rfl rfl ?_
 go_simp
 refine (mM m gp _ HOK.out (st2.at 1 rfl) x).mono ?_
 rintro e' w3 ⟨rfl, hf3⟩
 have st3 := st2.keep hf3
 clear hf3
 clear st2
 refine ⟨St.less st3 Ae, ?_⟩
 try simp only [J]
 refine bC rfl rfl ?_
 go_simp
 refine (xB (x % m.M) _).mono ?_
 rintro e' w4 ⟨v, rfl, hown, hf4⟩
 have st4 := st3.keep hf4
 have HSZ := st3.fr.size
 obtain ⟨av, cv, hve, hcv, hrv, -⟩ := hown.form
 subst hve
 have HOWN := qH (hown.mono (HSZ))
 clear hown hrv
 clear hf4
 clear st3
 refine ⟨St.less st4 Ae, ?_⟩
 try simp only [J]
 refine aU rfl rfl ?_
 go_simp
 try simp only [J]
 refine aH ?_
 refine NoPanic.normal ?_
 have hfr := st4.fr
 clear st4
 go_wp2_with fail
 go_ret
 exact ⟨_, rfl, HOWN.out, hfr⟩
end Go.Proofs.YtemcankmggmgoaaGreat
namespace Go.Mv
open Go.RowKit
end Go.Mv
namespace Go.Proofs.YtemcankmggmgoaaGreat
open Go.RowKit Go.Mv Mvp
def ptL (m : Md) (x y z : Nat) : List Value := cw 4 (elN m x) ++ (cw 4 (elN m y) ++ cw 4 (elN m z))
def ptV (m : Md) (x y z : Nat) : Value := .agg (ptL m x y z).toArray
def nT (m : Md) (gp bx by_ : Nat) : List Value := [.pointer (some ⟨gp, 0, none⟩)] ++ (cw 4 (elN m 7) ++ ptL m bx by_ 1)
theorem lJ (m : Md) (x y z : Nat) : (ptL m x y z).length = 12 := by simp [ptL, aT]
theorem b0z (m : Md) (gp bx by_ : Nat) : ((nT m gp bx by_).drop 1).take (cw 4 (elN m 7)).length = cw 4 (elN m 7) := by
 unfold nT
 rw [List.singleton_append, List.drop_succ_cons, List.drop_zero, List.take_left]
theorem l0g (m : Md) (gp bx by_ : Nat) : ((nT m gp bx by_).drop 5).take (ptL m bx by_ 1).length = ptL m bx by_ 1 := by
 have h : ([Value.pointer (some ⟨gp, 0, none⟩)] ++ cw 4 (elN m 7)).length = 5 := by rw [List.length_append, aT]; rfl
 unfold nT
 rw [← List.append_assoc, List.drop_append_of_le_length Ab, List.drop_of_length_le Ab, List.nil_append, List.take_of_length_le (Nat.le_refl _)]
theorem vS (a b c : Nat) : ((cw 4 a ++ (cw 4 b ++ cw 4 c)).drop 0).take (cw 4 a).length = cw 4 a := by
 rw [List.drop_zero, List.take_left]
theorem a0z (a b c : Nat) : ((cw 4 a ++ (cw 4 b ++ cw 4 c)).drop 4).take (cw 4 b).length = cw 4 b := by
 have h : (cw 4 a).length = 4 := aT _ _
 rw [List.drop_append_of_le_length Ab, List.drop_of_length_le Ab, List.nil_append, List.take_left]
theorem mR (a b c : Nat) : ((cw 4 a ++ (cw 4 b ++ cw 4 c)).drop 8).take (cw 4 c).length = cw 4 c := by
 have h : (cw 4 a ++ cw 4 b).length = 8 := by rw [List.length_append, aT, aT]
 rw [← List.append_assoc, List.drop_append_of_le_length Ab, List.drop_of_length_le Ab, List.nil_append, List.take_of_length_le (Nat.le_refl _)]
theorem bX (a b c : Nat) : ∀ v ∈ cw 4 a ++ (cw 4 b ++ cw 4 c), v.oneCell' = true := by
 intro v hv
 simp only [List.mem_append] at hv
 rcases hv with h | h | h <;> exact aF _ _ v h
theorem nE (a b c : Nat) : prog.built 117 [(0, i4 a), (1, i4 b), (2, i4 c)] = some (cw 4 a ++ (cw 4 b ++ cw 4 c)).toArray := by kernel_rfl
theorem i0q (a b : Nat) : prog.built 117 [(0, i4 a), (1, i4 b)] = some (cw 4 a ++ (cw 4 b ++ cw 4 0)).toArray := by kernel_rfl
attribute [local irreducible] bI lw mix cw cT dG cS bQ aO beN dO cI dI bM bT elN mdL cL
theorem iW (m : Md) (hok : m.Ok) (x y z : Nat) (b : Bool) (hb : (z % m.M == 0) = b) (w : World) :
  Calls prog 149 #[ptV m x y z] w fun e w' => e = .returned (.bool b) ∧ Fr Nob w w' := by
 have HOK := qH hok
 have HB := qH hb
 clear hok hb
 unfold ptV ptL
 have st0 := St.start Nob w
 go_enter func149, ntmps149
 go_wp2_with (with_reducible refine AA 1 ?_)
 refine aL st0 rfl rfl rfl (cw 4 (elN m x) ++ (cw 4 (elN m y) ++ cw 4 (elN m z))) rfl ?_
 intro g1 w1 st1
 clear st0
 go_wp2_with (with_reducible refine AA 4 ?_)
 refine fA rfl rfl underlying66 rfl (st1.at 0 rfl) (cw 4 (elN m z)) (mR _ _ _) Ad ?_
 go_wp2_with fail
 refine (jL m HOK.out z b HB.out _).mono ?_
 rintro e' w2 ⟨rfl, hf2⟩
 have st2 := st1.keep hf2
 clear st1 hf2
 have hfr := st2.fr
 clear st2
 go_wp2_with fail
 go_ret
 exact ⟨rfl, hfr⟩
theorem b0A (m : Md) (gc gp bx by_ : Nat) (w : World) (hok : m.Ok) (hcv : Has w gc (nT m gp bx by_) 125) (hpm : Has w gp (mdL m) 187) (x y z : Nat) :
  Calls prog 185 #[.pointer (some ⟨gc, 0, none⟩), ptV m x y z] w fun e w' => e = .returned (ptV m x (m.M - y % m.M) z) ∧ Fr Nob w w' := by
 have HOK := qH hok
 have HCV := qH hcv
 have HPM := qH hpm
 clear hok hcv hpm
 unfold ptV ptL
 have st0 := St.start Nob w
 go_enter func185, ntmps185
 go_wp2_with (with_reducible refine AA 3 ?_)
 refine aL st0 rfl rfl rfl (cw 4 (elN m x) ++ (cw 4 (elN m y) ++ cw 4 (elN m z))) rfl ?_
 intro g3 w1 st1
 clear st0
 go_wp2_with (with_reducible refine AA 4 ?_)
 refine aA st1 rfl rfl (z := zAc) Aa (cw 12 0) Af ?_
 intro g4 w2 st2
 clear st1
 go_wp2_with fail
 refine wp_region_noPanic ?_
 refine aP (fun wx => St Nob w wx [(g3, cw 4 (elN m x) ++ (cw 4 (elN m y) ++ cw 4 (elN m z)), 117), (g4, cw 12 0, 117)]) 12 (.w 0 (.t 1 (.w 2 (.w 3 (.w 4 (.t 5 (.w 6 (.t 7 (.w 9 (.t 10 (.r 8 (.w 11 (.m 12 .nil))))))))))))) Aa Aa st2.drew (fun _ _ _ _ _ h => h) ?_
 have hd2 := st2.drew
 clear st2
 refine aJ rfl rfl apW ?_
 try simp only [J]
 refine aV rfl rfl rfl rfl (cw 4 (elN m x)) (fun wx hS => St.rangeL hS 0 rfl 0 _ (vS _ _ _)) underlying66 rfl Ad ?_
 try simp only [J]
 refine aJ rfl rfl apW ?_
 try simp only [J]
 refine aJ rfl rfl apW ?_
 try simp only [J]
 refine aJ rfl rfl apW ?_
 try simp only [J]
 refine jY (v := ?_) rfl rfl (fun wx hS => ?_) ?_
 rotate_left 1
 ·(have hc := (HCV.out.keep (St.fr hS) id).cell (i := 0) rfl; clear hS; go_simp; with_reducible rfl)
 try simp only [J]
 refine aJ rfl rfl apW ?_
 try simp only [J]
 refine aV rfl rfl rfl rfl (cw 4 (elN m y)) (fun wx hS => St.rangeL hS 0 rfl 4 _ (a0z _ _ _)) underlying66 rfl Ad ?_
 try simp only [J]
 refine aJ rfl rfl apW ?_
 try simp only [J]
 refine aV rfl rfl rfl rfl (cw 4 (elN m z)) (fun wx hS => St.rangeL hS 0 rfl 8 _ (mR _ _ _)) underlying66 rfl Ad ?_
 try simp only [J]
 refine bC rfl rfl ?_
 go_simp
 refine (zK m gp _ HOK.out (HPM.out.keep hd2.fr id) y).mono ?_
 rintro e' w3 ⟨rfl, hf3⟩
 have st3 := hd2.keep hf3
 clear hf3
 clear hd2
 refine ⟨st3, ?_⟩
 try simp only [J]
 refine aJ rfl rfl (cC rfl _ (nE _ _ _)) ?_
 try simp only [J]
 refine aU rfl rfl ?_
 refine aG st3 1 rfl rfl rfl rfl Ah Ad (bX _ _ _) ?_
 intro w4 st4
 clear st3
 try simp only [Act.put]
 refine aH ?_
 refine NoPanic.normal ?_
 have hr := st4.at 1 rfl
 have hfr := st4.fr
 clear st4
 go_wp2_with fail
 exact bodyPost_ret (aY rfl rfl hr underlying117 rfl Ad) rfl ⟨rfl, hfr⟩
end Go.Proofs.YtemcankmggmgoaaGreat
namespace Go.Mv
open Go.RowKit
end Go.Mv
