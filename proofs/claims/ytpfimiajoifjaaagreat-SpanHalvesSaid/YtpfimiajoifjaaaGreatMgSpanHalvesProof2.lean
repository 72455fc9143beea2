/- ; ; ; ; ; ; ; ; ; ; ; ; ; ; ; ; ; ; ; ; ; ; ; ; ; ; ; ; ; ; ; . -/
import Derived.Test.YtpfimiajoifjaaaGreatMgSpanHalvesProof1
import Derived.Test.YtpfimiajoifjaaaGreatProg
import Derived.KernelRfl
import Derived.SliceStrings
import Derived.SizedLaws
import Derived.OpenShut
import Derived.ProofKit
set_option maxHeartbeats 16000000
set_option maxRecDepth 1000000

namespace Go.Mv
open Go.RowKit
abbrev Blk := Nat × List Value × TypeId
def upd (x : Nat → Value) (i : Nat) (v : Value) : Nat → Value := fun k => if k = i then v else x k
theorem i0Y (x : Nat → Value) (i : Nat) (v : Value) : upd x i v i = v := if_pos rfl
theorem f0g (x : Nat → Value) (i k : Nat) (v : Value) (h : (k == i) = false) : upd x i v k = x k := if_neg (by simpa using h)
theorem St.perm {S : Nat → Prop} {w0 w : World} {bl bl' : List Blk} (h : St S w0 w bl) (p : bl'.Perm bl) : St S w0 w bl' :=
 ⟨h.fr, fun x hx => h.own x (p.subset hx), fun x hx => h.has x (p.subset hx), (List.Perm.pairwise_iff (fun {_ _} e => Ne.symm e) p).2 h.ne⟩
inductive LS where
 | w (i : Nat)
 | t (i : Nat)
 | c (i : Nat)
 | o (i : Nat)
 | j (i : Nat)
def l0K : List LS → Nat
 | [] => 0
 | .j _ :: s => l0K s
 | _ :: s => l0K s + 1
section
variable {P : Program} {ops : Array Oper} {md : Region.Mode} {Q : Exit → Act → World → Prop} {Sx : World → Prop} {m : Nat} {S : Nat → Prop} {w0 : World} {tl : Pl}
def Mk (P : Program) (e : Sem Next) (v : Nat → Value) (L : List Value) (T : TypeId) : Prop :=
 ∀ w, ∃ g w', e.run P w = .ok (.value (v g)) w' ∧ Fr Nob w w' ∧ w.heap.size ≤ g ∧ Has w' g L T
abbrev Flt := Nat × (Nat → Value) × List Value × TypeId
def Lad (P : Program) (ops : Array Oper) (Q : Exit → Act → World → Prop) (Sx : World → Prop) (S : Nat → Prop) (w0 : World) (tl : Pl) : List LS → List Flt → List Blk → (World → Prop) → ((Nat → Value) → Act) → Prop
 | [], _, BL, R, A => ∀ x w, St S w0 w BL → R w → b0r P ops Q Sx tl (A x) w
 | .w i :: s, Γ, BL, R, A => ∃ o v, ops[i]? = some o ∧ (∀ x, YieldsIf P ops (fun _ => True) o v (A x)) ∧ Lad P ops Q Sx S w0 tl s Γ BL R (fun x => (A x).put o.dst v)
 | .t i :: s, Γ, BL, R, A => ∃ o v, ops[i]? = some o ∧ (∀ x, YieldsIf P ops Sx o v (A x)) ∧ Lad P ops Q Sx S w0 tl s Γ BL R (fun x => (A x).put o.dst v)
 | .c i :: s, Γ, BL, R, A => ∃ o, ops[i]? = some o ∧ o.guard = none ∧ ∃ (X : Type) (v : X → Value) (R' : X → World → Prop), (∀ y w w', R' y w → Fr Nob w w' → R' y w') ∧
   (∀ x w, St S w0 w BL → R w → o.wp P (A x) w (fun a' w' => ∃ y, a' = (A x).put o.dst (v y) ∧ Fr Nob w w' ∧ R' y w') Q) ∧ ∀ y, Lad P ops Q Sx S w0 tl s Γ BL (fun w => R w ∧ R' y w) (fun x => (A x).put o.dst (v y))
 | .o i :: s, Γ, BL, R, A => ∃ o e v L T, ops[i]? = some o ∧ o.guard = none ∧ (∀ x, execOp (A x).eval o = e) ∧ Mk P e v L T ∧ Lad P ops Q Sx S w0 tl s ((i, v, L, T) :: Γ) BL R (fun x => (A x).put o.dst (x i))
 | .j i :: s, Γ, BL, R, A => ∃ v L T, (i, v, L, T) ∈ Γ ∧ ∀ g, Lad P ops Q Sx S w0 tl s (Γ.filter (·.1 != i)) (BL ++ [(g, L, T)]) R (fun x => A (upd x i (v g)))
def s0o : List Nat → List (List Nat)
 | [] => [[]]
 | a :: l => s0o l ++ (s0o l).map (a :: ·)
theorem c0D (p : Nat → Bool) : ∀ l : List Nat, l.filter p ∈ s0o l
 | [] => by simp [s0o]
 | a :: l => by
  rw [s0o, List.filter_cons]
  split
  ·exact List.mem_append_right _ (List.mem_map.2 ⟨_, c0D p l, rfl⟩)
  ·exact List.mem_append_left _ (c0D p l)
def e0a (listed : Array Bool) (B : List Nat) : Array Bool := listed.mapIdx fun k b => b || B.contains k
theorem b0k (listed : Array Bool) (B : List Nat) : (e0a listed B).size = listed.size := by simp [e0a]
theorem c0t (listed : Array Bool) (B : List Nat) (k : Nat) (hk : k < listed.size) (d : Bool) : (e0a listed B).getD k d = (listed.getD k d || B.contains k) := by
 simp [e0a, hk]
theorem e0Q {a b : Array Bool} (hs : a.size = b.size) (h : ∀ k, k < a.size → a.getD k true = b.getD k true) : a = b := by
 refine Array.ext hs fun k h1 h2 => ?_
 have := h k h1
 simpa [h1, h2] using this
theorem i0Z (listed : Array Bool) (B : List Nat) (i : Nat) : (e0a listed B).setIfInBounds i true = e0a (listed.setIfInBounds i true) B := by
 refine e0Q (by simp [b0k]) fun k hk => ?_
 have hk' : k < listed.size := by simpa [b0k] using hk
 rw [c0t _ _ _ (by simpa using hk')]
 by_cases e : i = k
 ·subst e; rw [b0x (by rw [b0k]; exact hk'), b0x hk']; rfl
 ·rw [getD_set_ne true e, getD_set_ne true e, c0t _ _ _ hk']
theorem p0A (listed : Array Bool) (B : List Nat) (i : Nat) : (e0a listed B).setIfInBounds i true = e0a listed (B ++ [i]) := by
 refine e0Q (by simp [b0k]) fun k hk => ?_
 have hk' : k < listed.size := by simpa [b0k] using hk
 rw [c0t _ _ _ hk']
 by_cases e : i = k
 ·subst e; rw [b0x (by rw [b0k]; exact hk')]; simp
 ·rw [getD_set_ne true e, c0t _ _ _ hk']
  have : (k == i) = false := by simpa using fun h => e h.symm
  rw [List.contains_append, List.contains_cons, this]
  simp
theorem p0B (listed : Array Bool) (B C : List Nat) (h : ∀ k, B.contains k = C.contains k) : e0a listed B = e0a listed C := by
 unfold e0a
 congr 1
 funext k b
 rw [h k]
def cOk (md : Region.Mode) (ops : Array Oper) (i : Nat) (opn : List Nat) (listed : Array Bool) (B : List Nat) : Bool :=
 (Region.ready md ops (e0a listed B)).contains i && (Region.ready md ops (e0a listed B)).all fun k => k == i || (opn.contains k && !B.contains k)
def o0f (ops : Array Oper) (i : Nat) (opn : List Nat) : Bool := opn.all fun k => match ops[i]?, ops[k]? with | some a, some b => a.apart ops b | _, _ => false
def u0x (ops : Array Oper) (i : Nat) : Bool := match ops[i]? with | some o => (match o.dst with | some d => !(o.looksAt ops).contains d | none => true) | none => false
def f0h (md : Region.Mode) (ops : Array Oper) (m : Nat) (tl : Pl) : List LS → List Nat → Array Bool → Bool
 | [], opn, listed => opn.isEmpty && b0K md ops m tl listed
 | .w i :: s, opn, listed => decide (i ≠ m) && o0f ops i opn && ((s0o opn).all fun B => (Region.ready md ops (e0a listed B)).contains i && Region.free md ops (e0a listed B) i) && f0h md ops m tl s opn (listed.setIfInBounds i true)
 | .t i :: s, opn, listed => decide (i ≠ m) && decide (listed.getD m true = false) && o0f ops i opn && x0N md ops m ops.size i && ((s0o opn).all fun B => (Region.ready md ops (e0a listed B)).contains i && Region.free md ops (e0a listed B) i) && f0h md ops m tl s opn (listed.setIfInBounds i true)
 | .c i :: s, opn, listed => decide (i ≠ m) && decide (listed.getD m true = false) && !opn.contains i && o0f ops i opn && ((s0o opn).all fun B => cOk md ops i opn listed B) && f0h md ops m tl s opn (listed.setIfInBounds i true)
 | .o i :: s, opn, listed => decide (i ≠ m) && decide (listed.getD m true = false) && !opn.contains i && o0f ops i opn && u0x ops i && f0h md ops m tl s (i :: opn) listed
 | .j i :: s, opn, listed => opn.contains i && decide (listed.getD m true = false) && !opn.contains m && ((s0o (opn.filter (· != i))).all fun B => cOk md ops i opn listed B) && f0h md ops m tl s (opn.filter (· != i)) (listed.setIfInBounds i true)
theorem m0W (a : Act) (d e : Option Tmp) (u v : Value) (h : e ≠ d ∨ e = none) : (a.put e u).put d v = (a.put d v).put e u := by
 cases d <;> cases e <;> simp only [Act.put]
 ·rename_i x y
  have hn : y ≠ x := fun k => by subst k; rcases h with h | h; exact h rfl; cases h
  rw [Array.setIfInBounds_comm _ _ hn]
theorem p0C (a : Act) (d : Option Tmp) (u v : Value) : (a.put d u).put d v = a.put d v := by
 cases d <;> simp [Act.put]
theorem s0p (a : Act) (d : Option Tmp) : ∃ u, a.put d u = a := by
 cases d with
 | none => exact ⟨undef, rfl⟩
 | some d =>
  refine ⟨a.tmps.getD d undef, ?_⟩
  simp only [Act.put]
  have : a.tmps.setIfInBounds d (a.tmps.getD d undef) = a.tmps := by
   refine Array.ext ap4 fun k h1 h2 => ?_
   rw [Array.getElem_setIfInBounds (by simpa using h1)]
   split
   ·rename_i e; subst e; simp [h2]
   ·rfl
  rw [this]
theorem s0q (x : Nat → Value) (i : Nat) : upd x i (x i) = x := by
 funext k
 unfold upd
 split
 ·rename_i e; rw [e]
 ·rfl
theorem m0X {i : Nat} {opn : List Nat} {o : Oper} (h : o0f ops i opn = true) (ho : ops[i]? = some o) {k : Nat} {ok : Oper} (hk : k ∈ opn) (hok : ops[k]? = some ok) : o.apart ops ok = true := by
 have := List.all_eq_true.1 h k hk
 simp only [ho, hok] at this
 exact this
theorem u0y {o ok : Oper} (h : o.apart ops ok = true) : o.dst ≠ ok.dst ∨ o.dst = none := by
 obtain ⟨-, h2, -⟩ := Oper.apart_spec h
 cases hd : o.dst with
 | none => exact .inr rfl
 | some d => exact .inl fun e => h2 d hd e.symm
theorem z0X {o : Oper} {e : Sem Next} {v : Nat → Value} {L : List Value} {T : TypeId} (ha : Mk P e v L T) {BL : List Blk} {a : Act} {w : World} {K : Act → World → Prop} (he : execOp a.eval o = e) (hst : St S w0 w BL)
  (h : ∀ g w', St S w0 w' (BL ++ [(g, L, T)]) → Fr Nob w w' → K (a.put o.dst (v g)) w') : o.wp P a w K Q := by
 obtain ⟨g, w', hr, hf, hle, hg⟩ := ha w
 unfold Oper.wp
 rw [he, hr]
 exact h g w' (hst.new hf hg hle) hf
structure Fls (P : Program) (ops : Array Oper) (Γ : List Flt) (A : (Nat → Value) → Act) : Prop where
 nd : (Γ.map Prod.fst).Nodup
 ok : ∀ q ∈ Γ, ∃ o e, ops[q.1]? = some o ∧ o.guard = none ∧ (∀ x, execOp (A x).eval o = e) ∧ Mk P e q.2.1 q.2.2.1 q.2.2.2
 put : ∀ k ∈ Γ.map Prod.fst, ∀ o, ops[k]? = some o → ∀ x v, (A x).put o.dst v = A (upd x k v)
 not : ∀ k, k ∉ Γ.map Prod.fst → ∀ x v, A (upd x k v) = A x
theorem Fls.step {Γ : List Flt} {A : (Nat → Value) → Act} (h : Fls P ops Γ A) (hsel : Region.noSelect ops = true) {i : Nat} {o : Oper} (ho : ops[i]? = some o) (hd : o0f ops i (Γ.map Prod.fst) = true) (v : Value) : Fls P ops Γ (fun x => (A x).put o.dst v) := by
 refine ⟨h.nd, fun q hq => ?_, fun k hk ok hok x u => ?_, fun k hk x u => by rw [h.not k hk]⟩
 ·obtain ⟨o2, e, h1, h2, h3, h4⟩ := h.ok q hq
  have hap := m0X hd ho (List.mem_map_of_mem hq) h1
  refine ⟨o2, e, h1, h2, fun x => ?_, h4⟩
  rw [execOp_put (ops := ops) o2 (fun cs b => Region.noSelect_spec hsel q.1 o2 cs b h1) (A x) o.dst v (Oper.apart_spec hap).1]
  exact h3 x
 ·rw [m0W _ _ _ _ _ (u0y (m0X hd ho hk hok)), h.put k hk ok hok]
theorem o0g {Γ : List Flt} (h : (Γ.map Prod.fst).Nodup) {a b : Flt} (ha : a ∈ Γ) (hb : b ∈ Γ) (he : a.1 = b.1) : a = b := by
 induction Γ with
 | nil => cases ha
 | cons c l ih =>
  rw [List.map_cons, List.nodup_cons] at h
  rcases List.mem_cons.1 ha with ha1 | ha1
  ·rcases List.mem_cons.1 hb with hb1 | hb1
   ·rw [ha1, hb1]
   ·exact absurd (by rw [← ha1, he]; exact List.mem_map_of_mem hb1) h.1
  ·rcases List.mem_cons.1 hb with hb1 | hb1
   ·exact absurd (by rw [← hb1, ← he]; exact List.mem_map_of_mem ha1) h.1
   ·exact ih h.2 ha1 hb1
theorem f0Q (Γ : List Flt) (i : Nat) : (Γ.filter (·.1 != i)).map Prod.fst = (Γ.map Prod.fst).filter (· != i) := by
 induction Γ with
 | nil => rfl
 | cons a l ih =>
  simp only [List.filter_cons, List.map_cons]
  split <;> simp [ih]
theorem p0D {l : List Nat} (h : l.Nodup) (p : Nat → Bool) : (l.filter p).Nodup := List.Pairwise.filter p h
theorem i0p {l : List Nat} (h : l.Nodup) {i : Nat} (hi : i ∈ l) : (l.filter (· != i)).length + 1 = l.length := by
 induction l with
 | nil => cases hi
 | cons a l ih =>
  rw [List.nodup_cons] at h
  rw [List.filter_cons]
  by_cases e : a = i
  ·subst e
   rw [if_neg ap4]
   have : l.filter (· != a) = l := List.filter_eq_self.2 fun b hb => by
    simp only [bne_iff_ne, ne_eq]
    exact fun e => h.1 (e ▸ hb)
   rw [this]; rfl
  ·rw [if_pos (by simpa using e)]
   rcases List.mem_cons.1 hi with rfl | hi
   ·exact absurd rfl e
   ·simp [← ih h.2 hi]
theorem i0q (hsel : Region.noSelect ops = true) (hm : m < ops.size) (hQ : ∀ c (d : Option Tmp) v a w, Q (.panic c) (Act.put a d v) w → Q (.panic c) a w) :
  ∀ (N f : Nat) (s : List LS) (Γ : List Flt) (listed : Array Bool) (D : List (Nat × Value × Blk)) (x : Nat → Value) (w : World) (BL : List Blk) (R : World → Prop) (A : (Nat → Value) → Act),
   f + s.length ≤ N → f + D.length = l0K s + Γ.length + tl.len → listed.size = ops.size → m ∉ Γ.map Prod.fst → (D.map Prod.fst).Nodup → Cl md ops (e0a listed (D.map Prod.fst)) →
   f0h md ops m tl s (Γ.map Prod.fst) listed = true → (∀ d ∈ D, x d.1 = d.2.1) → Fls P ops Γ A → (∀ d ∈ D, ∃ v, (d.1, v, d.2.2.2.1, d.2.2.2.2) ∈ Γ ∧ d.2.1 = v d.2.2.1) →
   St S w0 w (BL ++ D.map fun d => d.2.2) → R w → (∀ w w', R w → Fr Nob w w' → R w') → (∀ w', St S w0 w' BL → Sx w') →
   Lad P ops Q Sx S w0 tl s Γ BL R A → wpP P md ops Q Sx m f (e0a listed (D.map Prod.fst)) (A x) w := by
 intro N
 induction N with
 | zero =>
  intro f s Γ listed D x w BL R A hN hf hsz hmo hDn inv hok hx hfl hDinf hst hR hRm hSx hlad
  obtain rfl : f = 0 := by omega
  obtain rfl : s = [] := by cases s with | nil => rfl | cons _ _ => simp at hN
  simp only [f0h, Bool.and_eq_true, List.isEmpty_iff, List.map_eq_nil_iff] at hok
  obtain ⟨rfl, hpl⟩ := hok
  obtain rfl : D = [] := by cases D with | nil => rfl | cons d _ => obtain ⟨_, h, _⟩ := hDinf d ap4; cases h
  have hmk : e0a listed (List.map Prod.fst ([] : List (Nat × Value × Blk))) = listed := by
   refine e0Q (b0k _ _) fun k hk => ?_
   rw [c0t _ _ _ (by simpa [b0k] using hk)]; simp
  rw [hmk] at inv ⊢
  have hst' : St S w0 w BL := by simpa using hst
  have hc : (0 : Nat) = tl.len := by simpa [l0K] using hf
  have := b0h (md := md) hsel hm hQ tl listed (A x) w inv hpl (fun _ => hSx w hst') (hlad x w hst' hR)
  rwa [← hc] at this
 | succ N ih =>
  intro f s Γ listed D x w BL R A hN hf hsz hmo hDn inv hok hx hfl hDinf hst hR hRm hSx hlad
  have hstB : St S w0 w BL := hst.less (List.sublist_append_left _ _)
  have hDo : ∀ d ∈ D, d.1 ∈ Γ.map Prod.fst := fun d hd => by
   obtain ⟨v, h, _⟩ := hDinf d hd
   exact List.mem_map_of_mem (f := Prod.fst) h
  have hDsub : D.map Prod.fst ⊆ Γ.map Prod.fst := fun a ha => by obtain ⟨d, hd, e⟩ := List.mem_map.1 ha; exact e ▸ hDo d hd
  have hDle : D.length ≤ Γ.length := by
   have := List.Nodup.length_le_of_subset hDn hDsub
   simpa using this
  have hml (h : listed.getD m true = false) : (e0a listed (D.map Prod.fst)).getD m true = false := by
   rw [c0t _ _ _ (by rw [hsz]; exact hm), h]
   simp only [Bool.false_or]
   cases hb : (D.map Prod.fst).contains m with
   | false => rfl
   | true => exact absurd (hDsub (List.contains_iff_mem.1 hb)) hmo
  have hmB : ∀ opn' : List Nat, (∀ d ∈ D, d.1 ∈ opn') → (e0a listed (D.map Prod.fst)) = e0a listed (opn'.filter fun k => (D.map Prod.fst).contains k) := by
   intro opn' hD'
   refine p0B _ _ _ fun k => ?_
   rw [Bool.eq_iff_iff]
   simp only [List.mem_filter, List.elem_eq_mem, decide_eq_true_eq]
   constructor
   ·intro h
    obtain ⟨d, hd, e⟩ := List.mem_map.1 h
    exact ⟨e ▸ hD' d hd, by simpa using h⟩
   ·intro h; simpa using h.2
  have float : ∀ k, f ≠ 0 → k ∈ Γ.map Prod.fst → k ∉ D.map Prod.fst → k ∈ Region.ready md ops (e0a listed (D.map Prod.fst)) →
    wpOp P ops Q k (fun a' w' => ((e0a listed (D.map Prod.fst)).getD m true = false → k ≠ m → Sx w') ∧ wpP P md ops Q Sx m (f - 1) ((e0a listed (D.map Prod.fst)).setIfInBounds k true) a' w') (A x) w := by
   intro k hf0 hko hkD hkr
   obtain ⟨⟨k2, v, L, T⟩, hq, rfl⟩ := List.mem_map.1 hko
   obtain ⟨o, e, ho, hg, he, hmk⟩ := hfl.ok _ hq
   refine c0W ho hg (z0X hmk (he x) hst fun g w' hst' hfr => ?_)
   have hstB' : St S w0 w' BL := hst'.less (by rw [List.append_assoc]; exact List.sublist_append_left _ _)
   refine ⟨fun _ _ => hSx w' hstB', ?_⟩
   rw [hfl.put k2 hko o ho]
   have e1 : (e0a listed (D.map Prod.fst)).setIfInBounds k2 true = e0a listed ((D ++ [(k2, v g, (g, L, T))]).map Prod.fst) := by
    rw [p0A]; simp
   have inv' := inv.set hkr
   rw [e1] at inv' ⊢
   refine ih (f - 1) s Γ listed (D ++ [(k2, v g, (g, L, T))]) (upd x k2 (v g)) w' BL R A ap1 (by simp; omega) hsz hmo ?_ inv' hok ?_ hfl ?_ ?_ (hRm w w' hR hfr) hRm hSx hlad
   ·rw [List.map_append, List.nodup_append]
    refine ⟨hDn, by simp, fun a ha b hb => ?_⟩
    simp only [List.map_cons, List.map_nil, List.mem_singleton] at hb
    subst hb
    exact fun h => hkD (h ▸ ha)
   ·intro d hd
    rcases List.mem_append.1 hd with h | h
    ·have hne : d.1 ≠ k2 := fun h2 => hkD (h2 ▸ List.mem_map_of_mem h)
     rw [f0g _ _ _ _ (by simpa using hne)]
     exact hx d h
    ·simp only [List.mem_singleton] at h; subst h; exact i0Y _ _ _
   ·intro d hd
    rcases List.mem_append.1 hd with h | h
    ·exact hDinf d h
    ·simp only [List.mem_singleton] at h; subst h; exact ⟨v, hq, rfl⟩
   ·simpa using hst'
  cases s with
  | nil =>
   simp only [f0h, Bool.and_eq_true, List.isEmpty_iff, List.map_eq_nil_iff] at hok
   obtain ⟨rfl, hpl⟩ := hok
   obtain rfl : D = [] := by cases D with | nil => rfl | cons d _ => simp at hDle
   have hmk : e0a listed (List.map Prod.fst ([] : List (Nat × Value × Blk))) = listed := by
    refine e0Q (b0k _ _) fun k hk => ?_
    rw [c0t _ _ _ (by simpa [b0k] using hk)]; simp
   rw [hmk] at inv ⊢
   have hc : f = tl.len := by simpa [l0K] using hf
   have := b0h (md := md) hsel hm hQ tl listed (A x) w inv hpl (fun _ => hSx w hstB) (hlad x w hstB hR)
   rwa [← hc] at this
  | cons q s =>
   cases q with
   | w i =>
    obtain ⟨o, v, ho, hy, hK⟩ := hlad
    simp only [f0h, Bool.and_eq_true, decide_eq_true_eq] at hok
    obtain ⟨⟨⟨him, hdn⟩, hall⟩, hok'⟩ := hok
    have hB := List.all_eq_true.1 hall _ (c0D (fun k => (D.map Prod.fst).contains k) (Γ.map Prod.fst))
    rw [← hmB _ hDo, Bool.and_eq_true] at hB
    have hr' : i ∈ Region.ready md ops (e0a listed (D.map Prod.fst)) := by simpa using hB.1
    obtain ⟨f', rfl⟩ : ∃ f', f = f' + 1 := ⟨f - 1, by simp [l0K] at hf; omega⟩
    refine g0Z ho (Region.noSelect_spec hsel) (fun c a w => hQ c o.dst v a w) him hm f' _ (A x) w inv (Region.free_spec ho hB.2) hr' (hy x) (fun _ => hSx w hstB) ?_
    have inv' := inv.set hr'
    rw [i0Z] at inv' ⊢
    exact ih f' s Γ (listed.setIfInBounds i true) D x w BL R (fun x => (A x).put o.dst v) (by simp at hN; omega) (by simp [l0K] at hf; omega) (by simpa using hsz) hmo hDn inv' hok' hx (hfl.step hsel ho hdn v) hDinf hst hR hRm hSx hK
   | t i =>
    obtain ⟨o, v, ho, hy, hK⟩ := hlad
    simp only [f0h, Bool.and_eq_true, decide_eq_true_eq] at hok
    obtain ⟨⟨⟨⟨⟨him, hlm⟩, hdn⟩, han⟩, hall⟩, hok'⟩ := hok
    have hB := List.all_eq_true.1 hall _ (c0D (fun k => (D.map Prod.fst).contains k) (Γ.map Prod.fst))
    rw [← hmB _ hDo, Bool.and_eq_true] at hB
    have hr' : i ∈ Region.ready md ops (e0a listed (D.map Prod.fst)) := by simpa using hB.1
    obtain ⟨f', rfl⟩ : ∃ f', f = f' + 1 := ⟨f - 1, by simp [l0K] at hf; omega⟩
    refine h0a ho (Region.noSelect_spec hsel) (fun c a w => hQ c o.dst v a w) him han f' _ (A x) w inv (hml hlm) (Region.free_spec ho hB.2) hr' (hy x) (hSx w hstB) ?_
    have inv' := inv.set hr'
    rw [i0Z] at inv' ⊢
    exact ih f' s Γ (listed.setIfInBounds i true) D x w BL R (fun x => (A x).put o.dst v) (by simp at hN; omega) (by simp [l0K] at hf; omega) (by simpa using hsz) hmo hDn inv' hok' hx (hfl.step hsel ho hdn v) hDinf hst hR hRm hSx hK
   | c i =>
    obtain ⟨o, ho, hg, X, v, R', hmono, hc, hK⟩ := hlad
    simp only [f0h, Bool.and_eq_true, decide_eq_true_eq, Bool.not_eq_true'] at hok
    obtain ⟨⟨⟨⟨⟨him, hlm⟩, hio⟩, hdn⟩, hall⟩, hok'⟩ := hok
    have hB := List.all_eq_true.1 hall _ (c0D (fun k => (D.map Prod.fst).contains k) (Γ.map Prod.fst))
    unfold cOk at hB
    rw [← hmB _ hDo, Bool.and_eq_true] at hB
    have hr' : i ∈ Region.ready md ops (e0a listed (D.map Prod.fst)) := by simpa using hB.1
    obtain ⟨f', rfl⟩ : ∃ f', f = f' + 1 := ⟨f - 1, by simp [l0K] at hf; omega⟩
    refine ⟨fun h0 => (by rw [h0] at hr'; cases hr'), fun j hj => ?_⟩
    have hcase := List.all_eq_true.1 hB.2 j hj
    simp only [Bool.or_eq_true, beq_iff_eq, Bool.and_eq_true, Bool.not_eq_true'] at hcase
    rcases hcase with rfl | ⟨h1, h2⟩
    ·refine c0W ho hg (Oper.wp_mono (fun a' w' h' => ?_) (hc x w hstB hR))
     obtain ⟨y, rfl, hfr, hRy⟩ := h'
     refine ⟨fun _ _ => hSx w' (hstB.keep hfr), ?_⟩
     have inv' := inv.set hr'
     rw [i0Z] at inv' ⊢
     exact ih f' s Γ (listed.setIfInBounds j true) D x w' BL (fun w => R w ∧ R' y w) (fun x => (A x).put o.dst (v y)) (by simp at hN; omega) (by simp [l0K] at hf; omega) (by simpa using hsz) hmo hDn inv' hok' hx (hfl.step hsel ho hdn (v y)) hDinf (hst.keep hfr) ⟨hRm w w' hR hfr, hRy⟩ (fun a b h k => ⟨hRm a b h.1 k, hmono y a b h.2 k⟩) hSx (hK y)
    ·have h3 : j ∉ D.map Prod.fst := by
      intro h4
      have : ((Γ.map Prod.fst).filter fun k => (D.map Prod.fst).contains k).contains j = true := by
       simp only [List.contains_iff_mem, List.mem_filter]
       exact ⟨by simpa using h1, by simpa using h4⟩
      rw [this] at h2; cases h2
     exact float j ap1 (by simpa using h1) h3 hj
   | o i =>
    obtain ⟨o, e, v, L, T, ho, hg, he, hmk, hK⟩ := hlad
    simp only [f0h, Bool.and_eq_true, decide_eq_true_eq, Bool.not_eq_true'] at hok
    obtain ⟨⟨⟨⟨⟨him, hlm⟩, hio⟩, hdn⟩, hself⟩, hok'⟩ := hok
    have hio' : i ∉ Γ.map Prod.fst := by simpa using hio
    obtain ⟨u, hu⟩ := s0p (A x) o.dst
    have hAx : A x = (A (upd x i u)).put o.dst (upd x i u i) := by rw [i0Y, hfl.not i hio', hu]
    rw [hAx]
    have hs0 : ∀ d, o.dst = some d → d ∉ o.looksAt ops := by
     intro d hd
     unfold u0x at hself
     simp only [ho, hd] at hself
     simpa using hself
    refine ih f s ((i, v, L, T) :: Γ) listed D (upd x i u) w BL R (fun x => (A x).put o.dst (x i)) (by simp at hN; omega) (by simp [l0K] at hf ⊢; omega) hsz ?_ hDn inv hok' ?_ ⟨?_, ?_, ?_, ?_⟩ (fun d hd => by obtain ⟨v, h1, h2⟩ := hDinf d hd; exact ⟨v, List.mem_cons_of_mem _ h1, h2⟩) hst hR hRm hSx hK
    ·simp only [List.map_cons, List.mem_cons, not_or]; exact ⟨fun h => him h.symm, hmo⟩
    ·intro d hd
     have hne : d.1 ≠ i := fun h => hio' (h ▸ hDo d hd)
     rw [f0g _ _ _ _ (by simpa using hne)]
     exact hx d hd
    ·rw [List.map_cons, List.nodup_cons]; exact ⟨hio', hfl.nd⟩
    ·intro q hq
     rcases List.mem_cons.1 hq with rfl | hq
     ·refine ⟨o, e, ho, hg, fun x => ?_, hmk⟩
      show execOp ((A x).put o.dst (x i)).eval o = e
      rw [execOp_put (ops := ops) o (fun cs b => Region.noSelect_spec hsel i o cs b ho) _ _ _ hs0, he]
     ·obtain ⟨o2, e2, h1, h2, h3, h4⟩ := hfl.ok q hq
      have hap := m0X hdn ho (List.mem_map_of_mem hq) h1
      refine ⟨o2, e2, h1, h2, fun x => ?_, h4⟩
      show execOp ((A x).put o.dst (x i)).eval o2 = e2
      rw [execOp_put (ops := ops) o2 (fun cs b => Region.noSelect_spec hsel q.1 o2 cs b h1) _ _ _ (Oper.apart_spec hap).1, h3]
    ·intro k hk ok hok x v
     show ((A x).put o.dst (x i)).put ok.dst v = (A (upd x k v)).put o.dst (upd x k v i)
     rw [List.map_cons] at hk
     rcases List.mem_cons.1 hk with rfl | hk
     ·have : ok = o := Option.some.inj (hok.symm.trans ho)
      subst this
      rw [p0C, i0Y, hfl.not _ hio']
     ·have hne : i ≠ k := fun h => hio' (h ▸ hk)
      rw [m0W _ _ _ _ _ (u0y (m0X hdn ho hk hok)), hfl.put k hk ok hok, f0g _ _ _ _ (by simpa using hne)]
    ·intro k hk x v
     show (A (upd x k v)).put o.dst (upd x k v i) = (A x).put o.dst (x i)
     simp only [List.map_cons, List.mem_cons, not_or] at hk
     rw [hfl.not k hk.2, f0g _ _ _ _ (by simpa using fun h => hk.1 h.symm)]
   | j i =>
    obtain ⟨v, L, T, hq, hK⟩ := hlad
    simp only [f0h, Bool.and_eq_true, decide_eq_true_eq, Bool.not_eq_true'] at hok
    obtain ⟨⟨⟨⟨hio, hlm⟩, hmo2⟩, hall⟩, hok'⟩ := hok
    have hio' : i ∈ Γ.map Prod.fst := by simpa using hio
    by_cases hiD : i ∈ D.map Prod.fst
    ·obtain ⟨d, hd, rfl⟩ := List.mem_map.1 hiD
     obtain ⟨v2, hq2, hv2⟩ := hDinf d hd
     obtain ⟨D1, D2, rfl⟩ := List.append_of_mem hd
     obtain ⟨k, u, g, L2, T2⟩ := d
     have hqe := o0g hfl.nd hq hq2 rfl
     simp only [Prod.mk.injEq, true_and] at hqe
     obtain ⟨rfl, rfl, rfl⟩ := hqe
     have hxd := hx _ hd
     have hDn' : k ∉ D1.map Prod.fst ∧ k ∉ D2.map Prod.fst ∧ ((D1 ++ D2).map Prod.fst).Nodup := by
      have hp : (List.map Prod.fst (D1 ++ (k, u, g, L, T) :: D2)).Perm (k :: List.map Prod.fst (D1 ++ D2)) := by
       rw [List.map_append, List.map_cons, List.map_append]
       exact List.perm_middle
      have := (hp.nodup_iff).1 hDn
      rw [List.nodup_cons] at this
      simp only [List.map_append, List.mem_append, not_or] at this ⊢
      exact ⟨this.1.1, this.1.2, this.2⟩
     have hAx : A x = A (upd x k (v g)) := by
      have h1 : x k = v g := hxd.trans hv2
      rw [← h1, s0q]
     rw [hAx]
     have hmk : e0a listed ((D1 ++ (k, u, g, L, T) :: D2).map Prod.fst) = e0a (listed.setIfInBounds k true) ((D1 ++ D2).map Prod.fst) := by
      refine e0Q (by simp [b0k]) fun q hq => ?_
      have hq' : q < listed.size := by simpa [b0k] using hq
      rw [c0t _ _ _ hq', c0t _ _ _ (by simpa using hq')]
      by_cases e : k = q
      ·subst e; rw [b0x hq']; simp
      ·rw [getD_set_ne true e]
       have : (q == k) = false := by simpa using fun h => e h.symm
       simp only [List.map_append, List.map_cons, List.contains_append, List.contains_cons, this, Bool.false_or]
     rw [hmk] at inv ⊢
     have hDk : ∀ d ∈ D1 ++ D2, d ∈ D1 ++ (k, u, g, L, T) :: D2 ∧ d.1 ≠ k := by
      intro d hd'
      refine ⟨?_, fun h => ?_⟩
      ·rcases List.mem_append.1 hd' with h | h
       ·exact List.mem_append_left _ h
       ·exact List.mem_append_right _ (List.mem_cons_of_mem _ h)
      ·rcases List.mem_append.1 hd' with h2 | h2
       ·exact hDn'.1 (h ▸ List.mem_map_of_mem h2)
       ·exact hDn'.2.1 (h ▸ List.mem_map_of_mem h2)
     have hmem : ∀ q ∈ Γ, q.1 ≠ k → q ∈ Γ.filter (·.1 != k) := fun q hq hne => List.mem_filter.2 ⟨hq, by simpa using hne⟩
     refine ih f s (Γ.filter (·.1 != k)) (listed.setIfInBounds k true) (D1 ++ D2) x w (BL ++ [(g, L, T)]) R (fun x => A (upd x k (v g))) (by simp at hN; omega) ?_ (by simpa using hsz) ?_ hDn'.2.2 inv ?_ (fun d hd' => hx d (hDk d hd').1) ⟨?_, ?_, ?_, ?_⟩ ?_ ?_ hR hRm ?_ (hK g)
     ·have h1 := i0p hfl.nd hio'
      rw [← f0Q] at h1
      simp only [List.length_map] at h1
      simp [l0K] at hf ⊢
      omega
     ·rw [f0Q]; exact fun h => hmo (List.mem_filter.1 h).1
     ·rw [f0Q]; exact hok'
     ·rw [f0Q]; exact p0D hfl.nd _
     ·intro q hq
      obtain ⟨o2, e2, h1, h2, h3, h4⟩ := hfl.ok q (List.mem_filter.1 hq).1
      exact ⟨o2, e2, h1, h2, fun x => h3 _, h4⟩
     ·intro q hq oq hoq x y
      show (A (upd x k _)).put oq.dst y = A (upd (upd x q y) k _)
      rw [f0Q] at hq
      have hqk : q ≠ k := by simpa using (List.mem_filter.1 hq).2
      rw [hfl.put q (List.mem_filter.1 hq).1 oq hoq]
      congr 1
      funext z
      unfold upd
      by_cases h1 : z = q
      ·subst h1; rw [if_pos rfl, if_neg hqk, if_pos rfl]
      ·rw [if_neg h1]; by_cases h2 : z = k
       ·rw [if_pos h2, if_pos h2]
       ·rw [if_neg h2, if_neg h2, if_neg h1]
     ·intro q hq x y
      show A (upd (upd x q y) k _) = A (upd x k _)
      by_cases hqk : q = k
      ·subst hqk
       congr 1
       funext z
       unfold upd
       by_cases h1 : z = q
       ·rw [if_pos h1, if_pos h1]
       ·rw [if_neg h1, if_neg h1, if_neg h1]
      ·have hq' : q ∉ Γ.map Prod.fst := fun h => hq (by rw [f0Q]; exact List.mem_filter.2 ⟨h, by simpa using hqk⟩)
       have : upd (upd x q y) k (v g) = upd (upd x k (v g)) q y := by
        funext z
        unfold upd
        by_cases h1 : z = k
        ·subst h1; rw [if_pos rfl, if_neg (fun h => hqk h.symm), if_pos rfl]
        ·rw [if_neg h1]; by_cases h2 : z = q
         ·rw [if_pos h2, if_pos h2]
         ·rw [if_neg h2, if_neg h2, if_neg h1]
       rw [this, hfl.not q hq']
     ·intro d hd'
      obtain ⟨v', h1, h2⟩ := hDinf d (hDk d hd').1
      exact ⟨v', hmem _ h1 (hDk d hd').2, h2⟩
     ·refine hst.perm ?_
      rw [List.append_assoc]
      refine List.Perm.append_left _ ?_
      rw [List.map_append, List.map_append, List.map_cons]
      exact (List.perm_middle (a := (g, L, T)) (l₁ := List.map (fun d => d.2.2) D1) (l₂ := List.map (fun d => d.2.2) D2)).symm
     ·intro w' h; exact hSx w' (h.less (List.sublist_append_left _ _))
    ·have hDe : ∀ d ∈ D, d.1 ∈ (Γ.map Prod.fst).filter (· != i) := fun d hd => List.mem_filter.2 ⟨hDo d hd, by
      simp only [bne_iff_ne, ne_eq]
      exact fun h => hiD (by rw [← h]; exact List.mem_map_of_mem hd)⟩
     have hB := List.all_eq_true.1 hall _ (c0D (fun k => (D.map Prod.fst).contains k) ((Γ.map Prod.fst).filter (· != i)))
     unfold cOk at hB
     rw [← hmB _ hDe, Bool.and_eq_true] at hB
     have hr' : i ∈ Region.ready md ops (e0a listed (D.map Prod.fst)) := by simpa using hB.1
     obtain ⟨f', rfl⟩ : ∃ f', f = f' + 1 := ⟨f - 1, by
      have h1 := List.Nodup.length_le_of_subset hDn (l₂ := (Γ.map Prod.fst).filter (· != i)) (fun a ha => by obtain ⟨d, hd, e⟩ := List.mem_map.1 ha; exact e ▸ hDe d hd)
      have h2 := i0p hfl.nd hio'
      simp [l0K] at hf h1 h2; omega⟩
     refine ⟨fun h0 => (by rw [h0] at hr'; cases hr'), fun j hj => ?_⟩
     have hcase := List.all_eq_true.1 hB.2 j hj
     simp only [Bool.or_eq_true, beq_iff_eq, Bool.and_eq_true, Bool.not_eq_true'] at hcase
     have hfl2 := float j ap1
     simp only [Nat.add_sub_cancel] at hfl2
     rcases hcase with rfl | ⟨h1, h2⟩
     ·exact hfl2 hio' hiD hj
     ·have h1' : j ∈ Γ.map Prod.fst := by simpa using h1
      have h3 : j ∉ D.map Prod.fst := by
       intro h4
       have h5 : j ∈ (Γ.map Prod.fst).filter (· != i) := by
        obtain ⟨d, hd, e⟩ := List.mem_map.1 h4
        exact e ▸ hDe d hd
       have : (((Γ.map Prod.fst).filter (· != i)).filter fun k => (D.map Prod.fst).contains k).contains j = true := by
        simp only [List.contains_iff_mem, List.mem_filter]
        exact ⟨by simpa using h5, by simpa using h4⟩
       rw [this] at h2; cases h2
      exact hfl2 h1' h3 hj
def m0Y (ops : Array Oper) (m : Nat) (s : List LS) (tl : Pl) : Bool :=
 Region.noSelect ops && decide (m < ops.size) && decide (l0K s + tl.len = ops.size) && f0h .any ops m tl s [] (Array.replicate ops.size false)
theorem a0k {id : Nat} {a : Act} {w : World} {l : List Oper} {BL : List Blk} (hst : St S w0 w BL) (m : Nat) (s : List LS) (tl : Pl) (hm : P.follows .mixedOrders = true) (hB : m0Y l.toArray m s tl = true)
  (hQ : ∀ c (d : Option Tmp) v a w, Q (.panic c) (Act.put a d v) w → Q (.panic c) a w)
  (h : Lad P l.toArray Q (fun w => St S w0 w BL) S w0 tl s [] BL (fun _ => True) (fun _ => a)) : (Code.region id l.toArray true).wp P Q a w := by
 simp only [m0Y, Bool.and_eq_true, decide_eq_true_eq] at hB
 obtain ⟨⟨⟨hsel, hms⟩, hlen⟩, hok⟩ := hB
 have hmk : e0a (Array.replicate l.toArray.size false) (List.map Prod.fst ([] : List (Nat × Value × Blk))) = Array.replicate l.toArray.size false := by
  refine e0Q (b0k _ _) fun k hk => ?_
  rw [c0t _ _ _ (by simpa [b0k] using hk)]; simp
 have inv0 : Cl .any l.toArray (Array.replicate l.toArray.size false) :=
  ⟨by simp, fun j oj _ hl => (by rw [getD_replicate_false] at hl; cases hl)⟩
 have H := i0q (md := .any) (Sx := fun w => St S w0 w BL) hsel hms hQ (l.toArray.size + s.length) l.toArray.size s [] (Array.replicate l.toArray.size false) [] (fun _ => undef) w.drew BL (fun _ => True) (fun _ => a)
  (Nat.le_refl _) (by simp [hlen]) ap4 ap4 ap4 (by rw [hmk]; exact inv0) hok ap4 ⟨by simp, by simp, by simp, fun _ _ _ _ => rfl⟩ ap4 (by simpa using hst.drew) trivial (fun _ _ _ _ => trivial) (fun _ h => h) h
 rw [hmk] at H
 exact wp_region_any hm (d0A _ _ _ _ H)
theorem Lad.weaken : ∀ (s : List LS) {Γ : List Flt} {BL : List Blk} {R R2 : World → Prop} {A : (Nat → Value) → Act}, (∀ w, R2 w → R w) → Lad P ops Q Sx S w0 tl s Γ BL R A → Lad P ops Q Sx S w0 tl s Γ BL R2 A
 | [], _, _, _, _, _, h2, h => fun x w a b => h x w a (h2 w b)
 | .w _ :: s, _, _, _, _, _, h2, ⟨o, v, a, b, c⟩ => ⟨o, v, a, b, Lad.weaken s h2 c⟩
 | .t _ :: s, _, _, _, _, _, h2, ⟨o, v, a, b, c⟩ => ⟨o, v, a, b, Lad.weaken s h2 c⟩
 | .c _ :: s, _, _, _, _, _, h2, ⟨o, a, b, X, v, R', c, d, e⟩ => ⟨o, a, b, X, v, R', c, fun x w p q => d x w p (h2 w q), fun y => Lad.weaken s (fun w h => ⟨h2 w h.1, h.2⟩) (e y)⟩
 | .o _ :: s, _, _, _, _, _, h2, ⟨o, e, v, L, T, a, b, c, d, f⟩ => ⟨o, e, v, L, T, a, b, c, d, Lad.weaken s h2 f⟩
 | .j _ :: s, _, _, _, _, _, h2, ⟨v, L, T, a, b⟩ => ⟨v, L, T, a, fun g => Lad.weaken s h2 (b g)⟩
variable {l : List Oper} {i : Nat} {s : List LS} {Γ : List Flt} {BL : List Blk} {R : World → Prop} {A : (Nat → Value) → Act} {o : Oper}
theorem a0J (h : ∀ x w, St S w0 w BL → R w → b0r P l.toArray Q Sx tl (A x) w) : Lad P l.toArray Q Sx S w0 tl [] Γ BL R A := h
theorem a0n (ho : l[i]? = some o) (hg : o.guard = none) {v : Value} (hv : ∀ x wx, (execOp (A x).eval o).run P wx = .ok (.value v) wx) (h : Lad P l.toArray Q Sx S w0 tl s Γ BL R (fun x => (A x).put o.dst v)) : Lad P l.toArray Q Sx S w0 tl (.w i :: s) Γ BL R A :=
 ⟨o, v, by simpa using ho, fun x => .inl ⟨by simp [Region.wanted, hg], fun wx _ => hv x wx⟩, h⟩
theorem a0P (ho : l[i]? = some o) (hg : o.guard = none) {v : Value} (hv : ∀ x wx, Sx wx → (execOp (A x).eval o).run P wx = .ok (.value v) wx) (h : Lad P l.toArray Q Sx S w0 tl s Γ BL R (fun x => (A x).put o.dst v)) : Lad P l.toArray Q Sx S w0 tl (.t i :: s) Γ BL R A :=
 ⟨o, v, by simpa using ho, fun x => .inl ⟨by simp [Region.wanted, hg], hv x⟩, h⟩
theorem a0j (ho : l[i]? = some o) (hg : o.guard = none) {ty : TypeId} {q : Operand} (hop : o.op = .load ty q) {g p : Nat} (hx : ∀ x, (A x).eval q = .pointer (some ⟨g, p, none⟩)) (cs : List Value) (hS : ∀ wx, Sx wx → wx.rangeAt g p cs)
  {d : TypeDesc} (hu : P.underlying ty = some d) (hd : d.isRow = true) (hi : (P.info? ty).map (·.size) = some cs.length) (h : Lad P l.toArray Q Sx S w0 tl s Γ BL R (fun x => (A x).put o.dst (.agg cs.toArray))) : Lad P l.toArray Q Sx S w0 tl (.t i :: s) Γ BL R A :=
 ⟨o, _, by simpa using ho, fun x => yieldsIf_load_mid (by simp [Region.wanted, hg]) ty q hop g p (hx x) cs d hS hu hd hi, h⟩
theorem j0a {e : TypeId} {z : Value} (hi : (P.info? e).map (·.zero) = some (some z)) {a : Act} (hop : o.op = .alloc e) (L : List Value) (hL : z.cells.toList = L) : Mk P (execOp a.eval o) (fun g => .pointer (some ⟨g, 0, none⟩)) L e := by
 intro w
 obtain ⟨i, hi1, hz⟩ : ∃ i, P.info? e = some i ∧ i.zero = some z := by simpa using hi
 have hr : (Instr.alloc e true (.tuple #[])).run P w = .ok (.pointer (some ⟨w.heap.size, 0, none⟩)) (w.alloc (.cells z.cells e)) := by
  simp [Instr.alloc, zeroValue, typeInfo, hi1, hz, newVar, newRow]
 refine ⟨w.heap.size, w.alloc (.cells z.cells e), ?_, (Fr.refl _ w).alloc _, Nat.le_refl _, ?_⟩
 ·unfold execOp
  simp only [hop, Sem.run_bind, Sem.run_pure, Result.andThen_ok, hr]
 ·have hg := Has.new w z.cells e
  rwa [hL] at hg
theorem c0K {e : TypeId} {z : Value} (ho : l[i]? = some o) (hg : o.guard = none) (hop : o.op = .alloc e) (hi : (P.info? e).map (·.zero) = some (some z)) (L : List Value) (hL : z.cells.toList = L) (h : Lad P l.toArray Q Sx S w0 tl s ((i, fun g => .pointer (some ⟨g, 0, none⟩), L, e) :: Γ) BL R (fun x => (A x).put o.dst (x i))) : Lad P l.toArray Q Sx S w0 tl (.o i :: s) Γ BL R A :=
 ⟨o, execOp (A fun _ => undef).eval o, _, L, e, by simpa using ho, hg, fun x => by unfold execOp; rw [hop], j0a hi hop L hL, h⟩
theorem x0P {e : Sem Next} {v : Nat → Value} {L : List Value} {T : TypeId} (ho : l[i]? = some o) (hg : o.guard = none) (he : ∀ x, execOp (A x).eval o = e) (hm : Mk P e v L T) (h : Lad P l.toArray Q Sx S w0 tl s ((i, v, L, T) :: Γ) BL R (fun x => (A x).put o.dst (x i))) : Lad P l.toArray Q Sx S w0 tl (.o i :: s) Γ BL R A :=
 ⟨o, e, v, L, T, by simpa using ho, hg, he, hm, h⟩
theorem c0A {v : Nat → Value} {L : List Value} {T : TypeId} (hq : (i, v, L, T) ∈ Γ) (h : ∀ g, Lad P l.toArray Q Sx S w0 tl s (Γ.filter (·.1 != i)) (BL ++ [(g, L, T)]) R (fun x => A (upd x i (v g)))) : Lad P l.toArray Q Sx S w0 tl (.j i :: s) Γ BL R A :=
 ⟨v, L, T, hq, h⟩
theorem x0Q {a : Act} {w : World} {K : Act → World → Prop} {f : FuncId} {xs : Array Operand} {ats : Array TypeId} (hop : o.op = .call { callee := .value (.func f), args := xs, argTypes := ats }) (hcl : ∀ us w, (callFunc f us).run P w = .ok (.enter f us) w)
  {vs : List Value} (hargs : xs.toList.map a.eval = vs) (h : Calls P f vs.toArray w fun e w' => ∃ v, e = .returned v ∧ K (a.put o.dst v) w') : o.wp P a w K Q := by
 have he : execOp a.eval o = callFunc f vs.toArray := by
  have h1 : execOp a.eval o = callFunc f (#[] ++ xs.map a.eval ++ #[]) := by
   unfold execOp
   rw [hop]
   rfl
  rw [h1]
  congr 1
  rw [← hargs]
  simp [← Array.toList_map]
 unfold Oper.wp
 rw [he, hcl]
 refine h.mono fun e w' h' => ?_
 obtain ⟨v, rfl, h2⟩ := h'
 exact h2
theorem a0l {f : FuncId} {xs : Array Operand} {ats : Array TypeId} (ho : l[i]? = some o) (hg : o.guard = none) (hop : o.op = .call { callee := .value (.func f), args := xs, argTypes := ats }) (hcl : ∀ us w, (callFunc f us).run P w = .ok (.enter f us) w)
  {vs : List Value} {v : Value} (hc : ∀ w, St S w0 w BL → R w → Calls P f vs.toArray w fun e w' => e = .returned v ∧ Fr Nob w w') (hargs : ∀ x, xs.toList.map (A x).eval = vs)
  (h : Lad P l.toArray Q Sx S w0 tl s Γ BL R (fun x => (A x).put o.dst v)) : Lad P l.toArray Q Sx S w0 tl (.c i :: s) Γ BL R A := by
 exact ⟨o, by simpa using ho, hg, Unit, fun _ => v, fun _ _ => True, fun _ _ _ _ _ => trivial, fun x w hst hR => x0Q hop hcl (hargs x) ((hc w hst hR).mono fun e w' h' => ⟨v, h'.1, (), rfl, h'.2, trivial⟩), fun _ => Lad.weaken s (fun w h => h.1) h⟩
theorem c0c {X : Type} (v : X → Value) (R' : X → World → Prop) (hm : ∀ y w w', R' y w → Fr Nob w w' → R' y w') {f : FuncId} {xs : Array Operand} {ats : Array TypeId} (ho : l[i]? = some o) (hg : o.guard = none) (hop : o.op = .call { callee := .value (.func f), args := xs, argTypes := ats }) (hcl : ∀ us w, (callFunc f us).run P w = .ok (.enter f us) w)
  {vs : List Value} (hc : ∀ w, St S w0 w BL → R w → Calls P f vs.toArray w fun e w' => ∃ y, e = .returned (v y) ∧ R' y w' ∧ Fr Nob w w') (hargs : ∀ x, xs.toList.map (A x).eval = vs)
  (h : ∀ y, Lad P l.toArray Q Sx S w0 tl s Γ BL (fun w => R w ∧ R' y w) (fun x => (A x).put o.dst (v y))) : Lad P l.toArray Q Sx S w0 tl (.c i :: s) Γ BL R A :=
 ⟨o, by simpa using ho, hg, X, v, R', hm, fun x w hst hR => x0Q hop hcl (hargs x) ((hc w hst hR).mono fun e w' h' => by obtain ⟨y, h1, h2, h3⟩ := h'; exact ⟨v y, h1, y, rfl, h3, h2⟩), h⟩
variable {rest : List Oper} {a : Act} {w : World}
end
end Go.Mv
namespace Go.Mv
open Go.RowKit
variable {P : Program}
theorem d0K {w : World} {ops : Array Oper} {rest : List Oper} {o : Oper} {a : Act} {Q : Exit → Act → World → Prop} {t e : TypeId} {k : Nat} {parts : Array (Nat × Operand)} (hgd : o.guard = none) (ho : o.op = .buildSlice t k parts)
  (hu : P.underlying t = some (.slice e)) {z : Value} {by_ : Nat} (hi0 : (P.info? e).map (fun i => (i.zero, i.size, i.bytes)) = some (some z, 1, by_)) (vs : List Value) (hp : (parts.toList.map fun p => (p.1, a.eval p.2)) = (vs.zipIdx 0).map fun x => (x.2, x.1))
  (hv : ∀ v ∈ vs, v.cells = #[v]) (hk : vs.length = k) (hz : z.cells.size = 1)
  (h : ∀ w', Has w' w.heap.size vs e → Fr Nob w w' → w'.heap.size = w.heap.size + 1 → wpList P ops Q rest (a.put o.dst (.slice (some ⟨w.heap.size, 0, none⟩) k k)) w') (hk0 : 0 < k := by decide) (hk24 : k ≤ 16777216 := by decide) : wpList P ops Q (o :: rest) a w := by
 have _hz := hz
 obtain ⟨i, hi, hz0⟩ : ∃ i, P.info? e = some i ∧ (i.zero, i.size, i.bytes) = (some z, 1, by_) := by simpa using hi0
 simp only [Prod.mk.injEq] at hz0
 obtain ⟨hz1, hsz, hby⟩ := hz0
 have hf : Instr.fill (fun j => some (j * i.size, i.size)) ((Array.range (k * i.size)).map (z.cells[· % z.cells.size]!)) (parts.map fun (i, x) => (i, a.eval x)).toList = some vs.toArray := by
  rw [show (parts.map fun (i, x) => (i, a.eval x)).toList = (parts.toList.map fun p => (p.1, a.eval p.2)) by simp, hp, hsz]
  exact Great.fill_flat vs _ hv (by simp [hk])
 exact wpList_buildSlice hgd t e k _ ho _ i _ hu hi hz1 (by rw [hsz]; omega) (by rw [hsz]; omega) hf (h _ (Has.new w vs.toArray e) ((Fr.refl _ w).alloc _) ap4)
theorem b0M {w : World} {ops : Array Oper} {rest : List Oper} {o : Oper} {a : Act} {Q : Exit → Act → World → Prop} {t : TypeId} {parts : Array (Nat × Operand)} (hgd : o.guard = none) (ho : o.op = .build t parts) (cells : Array Value)
  (hb : P.built t (parts.toList.map fun p => (p.1, a.eval p.2)) = some cells) (h : wpList P ops Q rest (a.put o.dst (.agg cells)) w) : wpList P ops Q (o :: rest) a w :=
 m0S hgd ho cells (by rw [show (parts.map fun (i, x) => (i, a.eval x)).toList = (parts.toList.map fun p => (p.1, a.eval p.2)) by simp]; exact hb) h
theorem d0L {w : World} {ops : Array Oper} {rest : List Oper} {o : Oper} {a : Act} {Q : Exit → Act → World → Prop} {ty : TypeId} {x : Operand} (hgd : o.guard = none) (ho : o.op = .load ty x) {d : TypeDesc} (hu : P.underlying ty = some d) (hd : d.isRow = true) {g p : Nat} (hx : a.eval x = .pointer (some ⟨g, p, none⟩))
  {cs : List Value} (hg : At w g p cs) (hi : (P.info? ty).map (·.size) = some cs.length)
  (h : wpList P ops Q rest (a.put o.dst (.agg cs.toArray)) w) : wpList P ops Q (o :: rest) a w :=
 wpList_load_mid hgd ty x ho g p hx cs d (fun j v hv => hg j v hv) hu hd hi h
end Go.Mv
namespace Go.Mv
open Go.RowKit
variable {P : Program}
end Go.Mv
namespace Go.Mv
open Go.RowKit
variable {P : Program}
theorem g0y {w : World} {ops : Array Oper} {rest : List Oper} {o : Oper} {a : Act} {Q : Exit → Act → World → Prop} {t e : TypeId} {k : Nat} {parts : Array (Nat × Operand)} (hgd : o.guard = none) (ho : o.op = .buildSlice t k parts)
  (hu : P.underlying t = some (.slice e)) {z : Value} {sz by_ : Nat} (hi0 : (P.info? e).map (fun i => (i.zero, i.size, i.bytes)) = some (some z, sz, by_)) (vs : List Value) (hp : (parts.toList.map fun p => (p.1, a.eval p.2)) = (vs.zipIdx 0).map fun x => (x.2, x.1))
  (hv : ∀ v ∈ vs, v.cells.size = sz) (hk : vs.length = k) (L : List Value) (hL : (vs.flatMap fun v => v.cells.toList) = L)
  (h : ∀ w', Has w' w.heap.size L e → Fr Nob w w' → w'.heap.size = w.heap.size + 1 → wpList P ops Q rest (a.put o.dst (.slice (some ⟨w.heap.size, 0, none⟩) k k)) w') (hk0 : 0 < k * sz := by decide) (hk24 : k * sz ≤ 16777216 := by decide) : wpList P ops Q (o :: rest) a w := by
 obtain ⟨i, hi, hz0⟩ : ∃ i, P.info? e = some i ∧ (i.zero, i.size, i.bytes) = (some z, sz, by_) := by simpa using hi0
 simp only [Prod.mk.injEq] at hz0
 obtain ⟨hz1, hsz, hby⟩ := hz0
 have hs0 : 0 < sz := Nat.pos_of_mul_pos_left hk0
 have hf : Instr.fill (fun j => some (j * i.size, i.size)) ((Array.range (k * i.size)).map (z.cells[· % z.cells.size]!)) (parts.map fun (i, x) => (i, a.eval x)).toList = some L.toArray := by
  rw [show (parts.map fun (i, x) => (i, a.eval x)).toList = (parts.toList.map fun p => (p.1, a.eval p.2)) by simp, hp, hsz, ← hL]
  exact Great.fill_whole hs0 vs _ hv (by simp [hk])
 exact wpList_buildSlice hgd t e k _ ho _ i _ hu hi hz1 (by rw [hsz]; omega) (by rw [hsz]; omega) hf (h _ (Has.new w L.toArray e) ((Fr.refl _ w).alloc _) ap4)
end Go.Mv
namespace Go.Mv
open Go.RowKit
variable {P : Program}
end Go.Mv
namespace Go.Mv
open Go.RowKit
section
variable {P : Program} {Q : Exit → Act → World → Prop} {Sx : World → Prop} {S : Nat → Prop} {w0 : World} {tl : Pl} {l : List Oper} {i : Nat} {s : List LS} {Γ : List Flt} {BL : List Blk} {R : World → Prop} {A : (Nat → Value) → Act} {o : Oper}
theorem h0b {parts : Array (Nat × Operand)} {ρ : Operand → Value} {M : List (Nat × Value)} (h : (parts.toList.map fun p => (p.1, ρ p.2)) = M) : (parts.map fun (i, x) => (i, ρ x)) = M.toArray := by
 apply Array.toList_inj.1
 rw [Array.toList_map, ← h]
theorem l0L {t e : TypeId} {k : Nat} {M : List (Nat × Value)} (hu : P.underlying t = some (.slice e)) {z : Value} {sz by_ : Nat} (hi0 : (P.info? e).map (fun i => (i.zero, i.size, i.bytes)) = some (some z, sz, by_)) (vs : List Value) (hp : M = (vs.zipIdx 0).map fun x => (x.2, x.1))
  (hv : ∀ v ∈ vs, v.cells.size = sz) (hk : vs.length = k) (L : List Value) (hL : (vs.flatMap fun v => v.cells.toList) = L) (hk0 : 0 < k * sz := by decide) (hk24 : k * sz ≤ 16777216 := by decide) :
  Mk P (do pure (.value (← Instr.buildSlice t k M.toArray))) (fun g => .slice (some ⟨g, 0, none⟩) k k) L e := by
 intro w
 obtain ⟨i, hi, hz0⟩ : ∃ i, P.info? e = some i ∧ (i.zero, i.size, i.bytes) = (some z, sz, by_) := by simpa using hi0
 simp only [Prod.mk.injEq] at hz0
 obtain ⟨hz1, hsz, hby⟩ := hz0
 have hs0 : 0 < sz := Nat.pos_of_mul_pos_left hk0
 have hf : Instr.fill (fun j => some (j * i.size, i.size)) ((Array.range (k * i.size)).map (z.cells[· % z.cells.size]!)) M = some L.toArray := by
  rw [hp, hsz, ← hL]
  exact Great.fill_whole hs0 vs _ hv (by simp [hk])
 refine ⟨w.heap.size, w.alloc (.cells L.toArray e), ?_, (Fr.refl _ w).alloc _, Nat.le_refl _, Has.new w L.toArray e⟩
 simp only [Sem.run_bind, run_buildSlice w t e k M.toArray L.toArray i z hu hi hz1 (by rw [hsz]; omega) (by rw [hsz]; omega) (by simpa using hf), Result.andThen_ok, Sem.run_pure]
theorem j0b {t e : TypeId} {k : Nat} {parts : Array (Nat × Operand)} (ho : l[i]? = some o) (hg : o.guard = none) (hop : o.op = .buildSlice t k parts) (hu : P.underlying t = some (.slice e)) {z : Value} {sz by_ : Nat} (hi0 : (P.info? e).map (fun i => (i.zero, i.size, i.bytes)) = some (some z, sz, by_))
  (vs : List Value) (hp : ∀ x, (parts.toList.map fun p => (p.1, (A x).eval p.2)) = (vs.zipIdx 0).map fun x => (x.2, x.1)) (hv : ∀ v ∈ vs, v.cells.size = sz) (hk : vs.length = k) (L : List Value) (hL : (vs.flatMap fun v => v.cells.toList) = L)
  (h : Lad P l.toArray Q Sx S w0 tl s ((i, fun g => .slice (some ⟨g, 0, none⟩) k k, L, e) :: Γ) BL R (fun x => (A x).put o.dst (x i))) (hk0 : 0 < k * sz := by decide) (hk24 : k * sz ≤ 16777216 := by decide) : Lad P l.toArray Q Sx S w0 tl (.o i :: s) Γ BL R A :=
 x0P ho hg (fun x => by unfold execOp; simp only [hop]; rw [h0b (hp x)]) (l0L hu hi0 vs rfl hv hk L hL hk0 hk24) h
theorem o0h (ho : l[i]? = some o) (hg : o.guard = none) {v : Value} (hv : ∀ x w, St S w0 w BL → R w → (execOp (A x).eval o).run P w = .ok (.value v) w) (h : Lad P l.toArray Q Sx S w0 tl s Γ BL R (fun x => (A x).put o.dst v)) : Lad P l.toArray Q Sx S w0 tl (.c i :: s) Γ BL R A :=
 ⟨o, by simpa using ho, hg, Unit, fun _ => v, fun _ _ => True, fun _ _ _ _ _ => trivial, fun x w hst hR => by unfold Oper.wp; rw [hv x w hst hR]; exact ⟨(), rfl, Fr.refl _ _, trivial⟩, fun _ => Lad.weaken s (fun w h => h.1) h⟩
theorem e0K {id : Nat} {a : Act} {w : World} (hst : St S w0 w BL) (R : World → Prop) (hR : R w.drew) (hRm : ∀ w w', R w → Fr Nob w w' → R w') (m : Nat) (s : List LS) (tl : Pl) (hm : P.follows .mixedOrders = true) (hB : m0Y l.toArray m s tl = true)
  (hQ : ∀ c (d : Option Tmp) v a w, Q (.panic c) (Act.put a d v) w → Q (.panic c) a w)
  (h : Lad P l.toArray Q (fun w => St S w0 w BL) S w0 tl s [] BL R (fun _ => a)) : (Code.region id l.toArray true).wp P Q a w := by
 simp only [m0Y, Bool.and_eq_true, decide_eq_true_eq] at hB
 obtain ⟨⟨⟨hsel, hms⟩, hlen⟩, hok⟩ := hB
 have hmk : e0a (Array.replicate l.toArray.size false) (List.map Prod.fst ([] : List (Nat × Value × Blk))) = Array.replicate l.toArray.size false := by
  refine e0Q (b0k _ _) fun k hk => ?_
  rw [c0t _ _ _ (by simpa [b0k] using hk)]; simp
 have inv0 : Cl .any l.toArray (Array.replicate l.toArray.size false) :=
  ⟨by simp, fun j oj _ hl => (by rw [getD_replicate_false] at hl; cases hl)⟩
 have H := i0q (md := .any) (Sx := fun w => St S w0 w BL) hsel hms hQ (l.toArray.size + s.length) l.toArray.size s [] (Array.replicate l.toArray.size false) [] (fun _ => undef) w.drew BL R (fun _ => a)
  (Nat.le_refl _) (by simp [hlen]) ap4 ap4 ap4 (by rw [hmk]; exact inv0) hok ap4 ⟨by simp, by simp, by simp, fun _ _ _ _ => rfl⟩ ap4 (by simpa using hst.drew) hR hRm (fun _ h => h) h
 rw [hmk] at H
 exact wp_region_any hm (d0A _ _ _ _ H)
end
end Go.Mv
namespace Go.Mv
open Go.RowKit
structure Sy (X : Nat → Prop) (w0 w : World) (bl : List (Nat × List Value × TypeId)) (l : List Ox) : Prop where
 st : St X w0 w bl
 os : OwS w 0 (fun k => k ∈ bl.map (·.1)) l
 inX : ∀ x ∈ l, ∀ k, b0g x.v k → X k ∨ w0.heap.size ≤ k
section
variable {X : Nat → Prop} {w0 w w' : World} {bl : List (Nat × List Value × TypeId)} {l : List Ox}
theorem Sy.start (X : Nat → Prop) (w : World) : Sy X w w [] [] := ⟨St.start X w, OwS.nil fun _ h => by simp at h, fun _ h => by simp at h⟩
theorem Sy.ofSt (h : St X w0 w bl) : Sy X w0 w bl [] := ⟨h, OwS.nil fun k hk => by
 obtain ⟨x, hx, rfl⟩ := List.mem_map.1 hk
 exact (h.has x hx).lt, fun _ h => by simp at h⟩
theorem Sy.keep (h : Sy X w0 w bl l) (hf : Fr Nob w w') : Sy X w0 w' bl l := ⟨h.st.keep hf, h.os.still hf, h.inX⟩
theorem Sy.drew (h : Sy X w0 w bl l) : Sy X w0 w.drew bl l := h.keep (Fr.refl Nob w).drew
theorem Sy.less {bl' : List (Nat × List Value × TypeId)} {l' : List Ox} (h : Sy X w0 w bl l) (hs : bl'.Sublist bl) (hl : l'.Sublist l) : Sy X w0 w bl' l' :=
 ⟨h.st.less hs, (h.os.less hl).mono fun _ hk => (hs.map _).subset hk, fun x hx => h.inX x (hl.subset hx)⟩
theorem Sy.at (h : Sy X w0 w bl l) (i : Nat) {g : Nat} {L : List Value} {T : TypeId} (hi : bl[i]? = some (g, L, T)) : Has w g L T := h.st.at i hi
theorem Sy.own (h : Sy X w0 w bl l) (i : Nat) {v : Value} {T : TypeId} {sz n : Nat} {L : List Value} (hi : l[i]? = some ⟨v, T, sz, n, L⟩) : Own w 0 T sz v n L := h.os.at i hi
theorem Own.up {base base' sz n : Nat} {T : TypeId} {v : Value} {L : List Value} (h : Own w base T sz v n L) (hb : ∀ k, b0g v k → base' ≤ k) : Own w base' T sz v n L := by
 refine ⟨h.1, ?_⟩
 rcases h.2 with h2 | ⟨g, o, cap, B, rfl, h3, h4⟩
 ·exact .inl h2
 ·exact .inr ⟨g, o, cap, B, rfl, hb g rfl, h4⟩
theorem Sy.fresh (h : Sy Nob w0 w bl l) (i : Nat) {v : Value} {T : TypeId} {sz n : Nat} {L : List Value} (hi : l[i]? = some ⟨v, T, sz, n, L⟩) : Own w w0.heap.size T sz v n L :=
 (h.own i hi).up fun k hk => (h.inX _ (List.mem_of_getElem? hi) k hk).resolve_left id
theorem Sy.new (h : Sy X w0 w bl l) (hf : Fr Nob w w') {g : Nat} {L : List Value} {T : TypeId} (hg : Has w' g L T) (hn : w.heap.size ≤ g) : Sy X w0 w' (bl ++ [(g, L, T)]) l := by
 refine ⟨h.st.new hf hg hn, ?_, h.inX⟩
 have h2 := h.os.still hf
 refine ⟨h2.own, fun x hx k hk hks => ?_, h2.sep, fun k hk => ?_⟩
 ·rw [List.map_append, List.mem_append] at hks
  rcases hks with e | e
  ·exact h2.off x hx k hk e
  ·simp only [List.map_cons, List.map_nil, List.mem_singleton] at e
   subst e
   have := ((h.os.own x hx).lt hk).2
   omega
 ·rw [List.map_append, List.mem_append] at hk
  rcases hk with e | e
  ·exact h2.lt k e
  ·simp only [List.map_cons, List.map_nil, List.mem_singleton] at e
   subst e; exact hg.lt
theorem Sy.add (h : Sy X w0 w bl l) (hf : Fr Nob w w') {v : Value} {T : TypeId} {sz n : Nat} {L : List Value} (ho : Own w' w.heap.size T sz v n L) : Sy X w0 w' bl (l ++ [⟨v, T, sz, n, L⟩]) := by
 refine ⟨h.st.keep hf, h.os.new hf (x := ⟨v, T, sz, n, L⟩) ho (Nat.zero_le _), fun x hx k hk => ?_⟩
 rcases List.mem_append.1 hx with hx | hx
 ·exact h.inX x hx k hk
 ·rw [List.mem_singleton.1 hx] at hk
  exact .inr (Nat.le_trans h.st.fr.size (ho.lt hk).1)
theorem Sy.nil (h : Sy X w0 w bl l) (T : TypeId) (sz : Nat) : Sy X w0 w bl (l ++ [⟨.slice none 0 0, T, sz, 0, []⟩]) := h.add (Fr.refl _ _) (Own.nil _ _ _ _)
theorem Sy.put (h : Sy X w0 w bl l) (i : Nat) {g : Nat} {L L' : List Value} {T : TypeId} (hi : bl[i]? = some (g, L, T)) (hf : Fr (One g) w w') (hg : Has w' g L' T) : Sy X w0 w' (bl.set i (g, L', T)) l := by
 have e : (bl.set i (g, L', T)).map (·.1) = bl.map (·.1) := by
  rw [List.map_set]
  apply List.ext_getElem?
  intro j
  rw [List.getElem?_set]
  split
  ·rename_i hij
   subst hij
   rw [List.getElem?_map, hi]
   simp
   exact (List.getElem?_eq_some_iff.1 hi).1
  ·rfl
 refine ⟨h.st.put i hi hf hg, ?_, h.inX⟩
 rw [e]
 refine h.os.keep hf fun k (hk : k = g) => ?_
 subst hk
 exact List.mem_map.2 ⟨_, List.mem_of_getElem? hi, rfl⟩
theorem Sy.frOwn (h : Sy X w0 w bl l) (i : Nat) {x : Ox} (hi : l[i]? = some x) (hf : Fr (b0g x.v) w w') : Fr X w0 w' :=
 h.st.fr.trans hf fun k hk hx => (h.inX x (List.mem_of_getElem? hi) k hx).resolve_right ap1
theorem Sy.app (h : Sy X w0 w bl l) (i : Nat) {v v' : Value} {T : TypeId} {sz n n' : Nat} {L L' : List Value} (hi : l[i]? = some ⟨v, T, sz, n, L⟩) (hf : Fr (b0g v) w w') (ho : Own w' 0 T sz v' n' L') (hb : v'.ownBlock = v.ownBlock ∨ v'.ownBlock = some w.heap.size) : Sy X w0 w' bl (l.set i ⟨v', T, sz, n', L'⟩) := by
 have hm := List.mem_of_getElem? hi
 refine ⟨⟨h.frOwn i hi hf, h.st.own, fun x hx => (h.st.has x hx).keep hf fun hk => h.os.off _ hm _ hk (List.mem_map.2 ⟨x, hx, rfl⟩), h.st.ne⟩, h.os.put i hi hf (y := ⟨v', T, sz, n', L'⟩) ho hb, fun x hx k hk => ?_⟩
 rcases List.mem_or_eq_of_mem_set hx with hx | rfl
 ·exact h.inX x hx k hk
 ·rcases hb with hb | hb
  ·exact h.inX _ hm k (by unfold b0g at *; rw [← hb]; exact hk)
  ·have e : w.heap.size = k := by
    unfold b0g at hk
    exact Option.some.inj (hb.symm.trans hk)
   exact .inr (by rw [← e]; exact h.st.fr.size)
theorem Sy.off (h : Sy X w0 w bl l) (i : Nat) {x : Ox} (hi : l[i]? = some x) (j : Nat) {g : Nat} {L : List Value} {T : TypeId} (hj : bl[j]? = some (g, L, T)) : ¬ b0g x.v g := fun hk => h.os.off x (List.mem_of_getElem? hi) g hk (List.mem_map.2 ⟨_, List.mem_of_getElem? hj, rfl⟩)
theorem Sy.base (h : Sy X w0 w bl l) (hX : ∀ j, w0.heap.size ≤ j → X j) : Sy X w w bl l :=
 ⟨⟨Fr.refl _ _, fun x hx => .inr ((h.st.own x hx).elim (fun e => hX _ e) id), h.st.has, h.st.ne⟩, h.os, fun x hx k hk => .inl ((h.inX x hx k hk).elim id (fun e => hX _ e))⟩
theorem Sy.sl (h : Sy X w0 w bl l) (i : Nat) {v : Value} {T : TypeId} {sz n : Nat} {L : List Value} (hi : l[i]? = some ⟨v, T, sz, n, L⟩) : ∃ a c, v = .slice a n c ∧ n ≤ c := by
 obtain ⟨a, c, rfl, hc, -⟩ := (h.own i hi).form
 exact ⟨a, c, rfl, hc⟩
end
section
variable {P : Program} {X : Nat → Prop} {w0 w : World} {bl : List (Nat × List Value × TypeId)} {l : List Ox} {o : Oper} {a : Act} {K : Act → World → Prop} {Q : Exit → Act → World → Prop}
theorem b0N {ops : Array Oper} {rest : List Oper} (hgd : o.guard = none) (h : o.wp P a w (fun a' w' => wpList P ops Q rest a' w') Q) : wpList P ops Q (o :: rest) a w :=
 wpList_plain hgd fun _ hK => Oper.wp_mono hK h
theorem u0z {e : Sem Next} {v : Nat → Value} {L : List Value} {T : TypeId} (h : Sy X w0 w bl l) (hm : Mk P e v L T) (he : execOp a.eval o = e) (k : ∀ g w', Sy X w0 w' (bl ++ [(g, L, T)]) l → Fr Nob w w' → K (a.put o.dst (v g)) w') : o.wp P a w K Q := by
 obtain ⟨g, w', hr, hf, hle, hg⟩ := hm w
 unfold Oper.wp
 rw [he, hr]
 exact k g w' (h.new hf hg hle) hf
theorem d0B (h : Sy X w0 w bl l) {e : TypeId} (ho : o.op = .alloc e) {z : Value} (hi : (P.info? e).map (·.zero) = some (some z)) (L : List Value) (hL : z.cells.toList = L)
  (k : ∀ g w', Sy X w0 w' (bl ++ [(g, L, e)]) l → Fr Nob w w' → K (a.put o.dst (.pointer (some ⟨g, 0, none⟩))) w') : o.wp P a w K Q :=
 u0z (v := fun g => .pointer (some ⟨g, 0, none⟩)) h (j0a hi ho L hL) rfl k
theorem c0g (h : Sy X w0 w bl l) {t e : TypeId} {m : Nat} {parts : Array (Nat × Operand)} (hop : o.op = .buildSlice t m parts) (hu : P.underlying t = some (.slice e)) {z : Value} {sz by_ : Nat} (hi0 : (P.info? e).map (fun i => (i.zero, i.size, i.bytes)) = some (some z, sz, by_))
  (vs : List Value) (hp : (parts.toList.map fun p => (p.1, a.eval p.2)) = (vs.zipIdx 0).map fun x => (x.2, x.1)) (hv : ∀ v ∈ vs, v.cells.size = sz) (hk : vs.length = m) (L : List Value) (hL : (vs.flatMap fun v => v.cells.toList) = L)
  (k : ∀ g w', Sy X w0 w' (bl ++ [(g, L, e)]) l → Fr Nob w w' → K (a.put o.dst (.slice (some ⟨g, 0, none⟩) m m)) w') (hk0 : 0 < m * sz := by decide) (hk24 : m * sz ≤ 16777216 := by decide) : o.wp P a w K Q :=
 u0z (v := fun g => .slice (some ⟨g, 0, none⟩) m m) h (l0L hu hi0 vs rfl hv hk L hL hk0 hk24) (by unfold execOp; simp only [hop]; rw [h0b hp]) k
theorem l0M (h : Sy X w0 w bl l) {e : TypeId} {x : Operand} (ho : o.op = .box e x) {v : Value} (hx : a.eval x = v) (L : List Value) (hL : v.cells.toList = L)
  (k : ∀ g w', Sy X w0 w' (bl ++ [(g, L, e)]) l → Fr Nob w w' → K (a.put o.dst (.pointer (some ⟨g, 0, none⟩))) w') : o.wp P a w K Q := by
 have hr : (Instr.box e v).run P w = .ok (.pointer (some ⟨w.heap.size, 0, none⟩)) (w.alloc (.cells v.cells e)) := by
  simp [Instr.box, newVar, newRow]
 have hg := Has.new w v.cells e
 rw [hL] at hg
 unfold Oper.wp execOp
 simp only [ho, hx, Sem.run_bind, Sem.run_pure, Result.andThen_ok, hr]
 have hf := (Fr.refl Nob w).alloc (.cells v.cells e)
 exact k _ _ (h.new hf hg (Nat.le_refl _)) hf
theorem b0B (h : Sy X w0 w bl l) (i : Nat) {v : Value} {e : TypeId} {sz n : Nat} {L : List Value} (hi : l[i]? = some ⟨v, e, sz, n, L⟩) {s x : Operand} {t : TypeId} (ho : o.op = .call { callee := .builtin .append, args := #[s, x], argTypes := #[t, t] })
  {z : Value} {by_ : Nat} (ht : P.underlying t = some (.slice e)) (hi0 : (P.info? e).map (fun i => (i.zero, i.size, i.bytes)) = some (some z, sz, by_)) (hzs : z.cells.size = sz) (hsz : 0 < sz) (hs : a.eval s = v)
  {xa : Option Addr} {m c : Nat} {news : List Value} (hx : a.eval x = .slice xa m c) (hnews : Rd w xa (m * sz) news) (h1 : ∀ u ∈ news, u.oneCell' = true)
  (h63 : n + m ≤ maxLen) (hbytes : (n + m) * by_ ≤ 140737488355328)
  (k : ∀ v' w', Sy X w0 w' bl (l.set i ⟨v', e, sz, n + m, L ++ news⟩) → Fr (b0g v) w w' → K (a.put o.dst v') w') : o.wp P a w K Q := by
 obtain ⟨v', w', hr, h2, h3, h4⟩ := g0V (P := P) 0 t o.type e z sz by_ ht hi0 hzs hsz v n L (h.own i hi) xa m c news hnews h1 h63 hbytes (Nat.zero_le _)
 unfold Oper.wp execOp
 simp only [ho, resolve, invoke, builtin, Sem.run_bind, Sem.run_pure, Result.andThen_ok, List.map_toArray, List.map_cons, List.map_nil, hs, hx, hr]
 exact k v' w' (h.app i hi h3 h2 h4) h3
theorem d0C (h : Sy X w0 w bl l) (i : Nat) {g : Nat} {L : List Value} {T : TypeId} (hb : bl[i]? = some (g, L, T)) {ty : TypeId} {x y : Operand} (ho : o.op = .store ty x y) (hx : a.eval x = .pointer (some ⟨g, 0, none⟩)) {cs : List Value} (hy : a.eval y = .agg cs.toArray)
  (hn : cs.length = L.length) (hi : (P.info? ty).map (·.size) = some cs.length) (h1 : ∀ v ∈ cs, v.oneCell' = true)
  (k : ∀ w', Sy X w0 w' (bl.set i (g, cs, T)) l → Fr (One g) w w' → K (a.put o.dst undef) w') : o.wp P a w K Q := by
 obtain ⟨k1, k2, _⟩ := Has.setCells cs 0 L w (h.at i hb) ap1
 rw [b0L _ _ hn] at k1
 exact wp_store_mid ty x y ho g 0 cs.toArray hx hy (by simpa using (h.at i hb).there 0 cs.length ap1) (by simpa using hi) (all_oneCell_toArray h1) (by simpa using k _ (h.put i hb k2 k1) k2)
theorem c0h (h : Sy X w0 w bl l) (i : Nat) {g : Nat} {L : List Value} {T : TypeId} (hb : bl[i]? = some (g, L, T)) (j : Nat) {ty : TypeId} {x y : Operand} (ho : o.op = .store ty x y) (hx : a.eval x = .pointer (some ⟨g, j, none⟩)) {v : Value} (hy : a.eval y = v) (hj : j < L.length) (hi : (P.info? ty).map (·.size) = some 1) (hc : v.cells = #[v]) (hv : v.oneCell' = true)
  (k : ∀ w', Sy X w0 w' (bl.set i (g, L.set j v, T)) l → Fr (One g) w w' → K (a.put o.dst undef) w') : o.wp P a w K Q := by
 obtain ⟨i1, hi1, hi2⟩ : ∃ i, P.info? ty = some i ∧ i.size = 1 := by simpa using hi
 have hr := f0c (P := P) (h.at i hb) j hj v hv
 have hr2 : (Instr.storeAt ty (.pointer (some ⟨g, j, none⟩)) v).run P w = .ok () (w.setCell ⟨g, j, none⟩ v) := by
  simp [Instr.storeAt, Instr.sureAddr, storeVar, sizeOf, typeInfo, hi1, hi2, hc, storeCells, Addr.add, hr]
 unfold Oper.wp execOp
 simp only [ho, hx, hy, Sem.run_bind, Sem.run_pure, Result.andThen_ok, hr2]
 have hf : Fr (One g) w (w.setCell ⟨g, j, none⟩ v) := (Fr.refl (One g) w).setCell g j none v (fun _ => rfl)
 exact k _ (h.put i hb hf ((h.at i hb).set j v)) hf
end
end Go.Mv
namespace Go.Proofs.YtpfimiajoifjaaaGreat
section
open Go.RowKit Go.Mv Mvp
theorem d0g : (Tryz.prog.info? 5).map (fun i => (i.zero, i.size, i.bytes)) = some (some (.int .u8 0), 1, 1) := by kernel_rfl
theorem c0E : (Tryz.prog.info? 5).map (·.size) = some 1 := by kernel_rfl
end
section
open Go.RowKit Go.Mv Mvp
end
end Go.Proofs.YtpfimiajoifjaaaGreat
namespace Mvp
def d0D (i : Nat) : Nat := i / 5 + 5 * ((2 * (i % 5) + 3 * (i / 5)) % 5)
def j0c (s c : List UInt64) (i : Nat) : List UInt64 := c.set (i % 5) (c.getD (i % 5) 0 ^^^ s.getD i 0)
def o0i (s : List UInt64) (k : Nat) : List UInt64 := (List.range k).foldl (j0c s) [0, 0, 0, 0, 0]
def j0d (s col : List UInt64) (by_ : List Nat) (m : List UInt64) (i : Nat) : List UInt64 :=
 m.set (d0D i) (u0u (s.getD i 0 ^^^ (col.getD ((i + 4) % 5) 0 ^^^ u0u (col.getD ((i + 1) % 5) 0) 1)) (by_.getD i 0))
def p0m (s col : List UInt64) (by_ : List Nat) (k : Nat) : List UInt64 := (List.range k).foldl (j0d s col by_) (List.replicate 25 0)
def h0c (m : List UInt64) (y : Nat) (s : List UInt64) (x : Nat) : List UInt64 :=
 s.set (y + x) (m.getD (y + x) 0 ^^^ (~~~ (m.getD (y + (x + 1) % 5) 0) &&& m.getD (y + (x + 2) % 5) 0))
def d0E (m s : List UInt64) (y k : Nat) : List UInt64 := (List.range k).foldl (h0c m y) s
def l0z (m s : List UInt64) (k : Nat) : List UInt64 := (List.range k).foldl (fun s y => d0E m s (5 * y) 5) s
def k0g (by_ : List Nat) (s : List UInt64) (c : UInt64) : List UInt64 :=
 let t := l0z (p0m s (o0i s 25) by_ 25) s 5
 t.set 0 (t.getD 0 0 ^^^ c)
def b0c (by_ : List Nat) (rc : Nat → UInt64) (s : List UInt64) (k : Nat) : List UInt64 := (List.range k).foldl (fun s r => k0g by_ s (rc r)) s
def A0P (x y : Nat) : Nat := x % 5 + 5 * (y % 5)
theorem k0h {α β : Type} (P : α → Prop) (f : α → β → α) (hf : ∀ a b, P a → P (f a b)) (l : List β) : ∀ a, P a → P (l.foldl f a) := by
 induction l with
 | nil => intro a h; exact h
 | cons b l ih => intro a h; exact ih _ (hf _ _ h)
theorem j0e (m s : List UInt64) (k : Nat) : (l0z m s k).length = s.length := by
 refine k0h (fun l : List UInt64 => l.length = s.length) _ (fun a y h => ?_) _ _ rfl
 refine k0h (fun l : List UInt64 => l.length = s.length) _ (fun b x h => ?_) _ _ h
 simp [h0c, h]
theorem o0j (t : List Nat) (s : List UInt64) (c : UInt64) : (k0g t s c).length = s.length := by simp [k0g, j0e]
theorem i0r (t : List Nat) (rc : Nat → UInt64) (s : List UInt64) (k : Nat) : b0c t rc s (k + 1) = k0g t (b0c t rc s k) (rc k) := by
 simp [b0c, List.range_succ]
theorem k0i (t : List Nat) (rc : Nat → UInt64) (s : List UInt64) (k : Nat) : (b0c t rc s k).length = s.length := by
 induction k with
 | zero => simp [b0c]
 | succ k ih => rw [i0r, o0j, ih]
def l0N : List Nat := [
 0, 0, 0, 0, 0, 0, 0, 1, 0, 0, 0, 0, 0, 0, 0x80, 0x82, 0x80, 0, 0, 0, 0, 0, 0x80, 0x8a, 0x80, 0, 0, 0, 0x80, 0, 0x80, 0,
 0, 0, 0, 0, 0, 0, 0x80, 0x8b, 0, 0, 0, 0, 0x80, 0, 0, 1, 0x80, 0, 0, 0, 0x80, 0, 0x80, 0x81, 0x80, 0, 0, 0, 0, 0, 0x80, 9,
 0, 0, 0, 0, 0, 0, 0, 0x8a, 0, 0, 0, 0, 0, 0, 0, 0x88, 0, 0, 0, 0, 0x80, 0, 0x80, 9, 0, 0, 0, 0, 0x80, 0, 0, 0xa,
 0, 0, 0, 0, 0x80, 0, 0x80, 0x8b, 0x80, 0, 0, 0, 0, 0, 0, 0x8b, 0x80, 0, 0, 0, 0, 0, 0x80, 0x89, 0x80, 0, 0, 0, 0, 0, 0x80, 3,
 0x80, 0, 0, 0, 0, 0, 0x80, 2, 0x80, 0, 0, 0, 0, 0, 0, 0x80, 0, 0, 0, 0, 0, 0, 0x80, 0xa, 0x80, 0, 0, 0, 0x80, 0, 0, 0xa,
 0x80, 0, 0, 0, 0x80, 0, 0x80, 0x81, 0x80, 0, 0, 0, 0, 0, 0x80, 0x80, 0, 0, 0, 0, 0x80, 0, 0, 1, 0x80, 0, 0, 0, 0x80, 0, 0x80, 8]
def l0O (r : Nat) (c : UInt64) (n : Nat) : UInt64 := shl c 8 ||| (UInt8.ofNat (l0N.getD (8 * r + n) 0)).toUInt64
def rcP (r k : Nat) : UInt64 := (List.range k).foldl (l0O r) 0
def xy : Nat → Nat × Nat
 | 0 => (1, 0)
 | t + 1 => ((xy t).2, (2 * (xy t).1 + 3 * (xy t).2) % 5)
def g0z (l : List Nat) (t : Nat) : List Nat := l.set ((xy t).1 + 5 * (xy t).2) ((t + 1) * (t + 2) / 2 % 64)
def a0u (k : Nat) : List Nat := (List.range k).foldl g0z (List.replicate 25 0)
theorem _root_.ap2 {p : Prop} (h : p := by decide) : p := h
theorem z0Y (t : Nat) : (xy t).1 < 5 ∧ (xy t).2 < 5 := by
 induction t with
 | zero => decide
 | succ t ih => exact ⟨ih.2, Nat.mod_lt _ ap2⟩
def c0L (s : List UInt64) (i : Nat) (x : UInt8) : List UInt64 := s.set (i / 8) (wx (s.getD (i / 8) 0) (shl (wid x) (8 * (i % 8))))
def l0P (s : List UInt64) (b : List UInt8) (k : Nat) : List UInt64 := (List.range k).foldl (fun s i => c0L s i (b.getD i 0)) s
def v0G (s : List UInt64) (i : Nat) : UInt8 := lo8 (shr (s.getD (i / 8) 0) (8 * (i % 8)))
def toB (s : List UInt64) (n : Nat) : List UInt8 := (List.range n).map (v0G s)
theorem h0d (s : List UInt64) (b : List UInt8) (k : Nat) : l0P s b (k + 1) = c0L (l0P s b k) k (b.getD k 0) := by simp [l0P, List.range_succ]
theorem s0r (s : List UInt64) (b : List UInt8) (k : Nat) : (l0P s b k).length = s.length := by
 induction k with
 | zero => simp [l0P]
 | succ k ih => rw [h0d]; simp [c0L, ih]
theorem f0R (s : List UInt64) (n : Nat) : (toB s n).length = n := by simp [toB]
end Mvp
namespace Go.Proofs.YtpfimiajoifjaaaGreat
section
open Go.RowKit Go.Mv Mvp
theorem p0E {k : IntKind} {a b : Int} (h : a = b) : Ending.returned (.int k a) = .returned (.int k b) := by rw [h]
theorem s0s (x : UInt64) (k : Nat) (hk : k < 64) : wo (shl x (k % 64)) (shr x (64 - k % 64)) = u0u x k := by
 rw [Nat.mod_eq_of_lt hk]; rfl
theorem p0F (x : UInt64) (k : Nat) (hk : k < 64) (w : World) :
  Calls Tryz.prog 276 #[.int .u64 (x.toNat : Int), .int .i64 (k : Int)] w fun e w' => e = .returned (.int .u64 ((u0u x k).toNat : Int)) ∧ w = w' := by
 go_enter Tryz.func276, Tryz.ntmps276
 go_wp2
 go_ret
 exact ⟨p0E (by rw [← s0s x k hk]), rfl⟩
theorem o0k (i : Nat) (w : World) (hi : i ≤ 1000) :
  Calls Tryz.prog 277 #[.int .i64 (i : Int)] w fun e w' => e = .returned (.int .i64 ((d0D i : Nat) : Int)) ∧ w = w' := by
 go_enter Tryz.func277, Tryz.ntmps277
 go_wp2
 go_ret
 exact ⟨p0E (by unfold d0D; omega), rfl⟩
end
section
open Go.RowKit Go.Mv Mvp
theorem s0t (r k : Nat) : rcP r (k + 1) = l0O r (rcP r k) k := by simp [rcP, List.range_succ]
theorem o0l (r : Nat) (hr : r < 24) (w : World) :
  Calls Tryz.prog 278 #[.int .i64 (r : Int)] w fun e w' => e = .returned (.int .u64 ((rcP r 8).toNat : Int)) ∧ w = w' := by
 go_enter Tryz.func278, Tryz.ntmps278
 go_wp2
 go_loop [2, 4] (fun c i => ∃ k : Nat, k ≤ 8 ∧ i = .int .i64 k ∧ c = .int .u64 ((rcP r k).toNat : Int)) (fun _ i => (8 - intOf i).toNat)
 case atStart => exact ⟨0, by omega, rfl, rfl⟩
 case round =>
  obtain ⟨k, hk, rfl, rfl⟩ := hrel
  by_cases hlt : k < 8
  ·go_wp2_with (first | (with_reducible refine wSk 13 ?_))
   refine k0c rfl rfl Tryz.underlying9 rfl rfl (8 * r + k) ap4 ?_ (UInt8.ofNat (l0N.getD (8 * r + k) 0)) ?_ ?_
   ·exact Nat.lt_of_lt_of_le (show 8 * r + k < 192 by omega) (by decide +kernel)
   ·generalize hj : 8 * r + k = j
    have hj' : j < 192 := by omega
    clear hj
    revert j
    decide +kernel
   generalize hy : UInt8.ofNat (l0N.getD (8 * r + k) 0) = y
   have HY := qH hy; clear hy
   go_wp2
   go_round
   case rel => exact ⟨k + 1, by omega, by go_num, by rw [s0t, l0O, HY.out]; rfl⟩
   case measure => simp [intOf]; omega
  ·go_wp2
   go_ret
   have : k = 8 := by omega
   subst this
   exact ⟨rfl, rfl⟩
end
section
open Go.RowKit Go.Mv Mvp
theorem f0i : (Tryz.prog.info? 339).map (·.size) = some 25 := by kernel_rfl
theorem h0e (k : Nat) : a0u (k + 1) = g0z (a0u k) k := by simp [a0u, List.range_succ]
theorem b0S (k : Nat) : (a0u k).length = 25 := by
 induction k with
 | zero => simp [a0u]
 | succ k ih => rw [h0e]; simp [g0z, ih]
theorem p0G (w : World) :
  Calls Tryz.prog 275 #[] w fun e w' => e = .returned (.agg (is (a0u 24)).toArray) ∧ Fr Nob w w' := by
 go_enter Tryz.func275, Tryz.ntmps275
 go_wp2
 go_loopw [1, 2, 4] (fun x y i wr => ∃ k : Nat, k ≤ 24 ∧ i = .int .i64 k ∧ x = .int .i64 ((xy k).1 : Nat) ∧ y = .int .i64 ((xy k).2 : Nat) ∧ Has wr w.heap.size (is (a0u k)) 339 ∧ Fr Nob w wr) (fun _ _ i _ => (24 - intOf i).toNat)
 case atStart =>
  refine ⟨0, by omega, rfl, rfl, rfl, ?_, (Fr.refl _ _).alloc _⟩
  exact Has.new w _ _
 case round =>
  obtain ⟨k, hk, rfl, rfl, rfl, hh, hf⟩ := hrel
  have hxy := z0Y k
  by_cases hlt : k < 24
  ·obtain ⟨v0, hc, hfr⟩ := hh.ready (i := (xy k).1 + 5 * (xy k).2) (by rw [d0f, b0S]; omega)
   have hp : (0 : Int) ≤ ((k : Int) + 1) * ((k : Int) + 2) ∧ ((k : Int) + 1) * ((k : Int) + 2) ≤ 650 := by
    refine ⟨Int.mul_nonneg ap1 ap1, ?_⟩
    have := Int.mul_le_mul (show (k : Int) + 1 ≤ 24 by omega) (show (k : Int) + 2 ≤ 25 by omega) ap1 ap1
    omega
   go_wp2
   go_roundw
   case rel =>
    refine ⟨k + 1, by omega, by go_num, rfl, by simp [xy], ?_, hf.setCell _ _ _ _ (fun h => absurd h (Nat.lt_irrefl _))⟩
    have e : ((k : Int) + 1) * ((k : Int) + 2) / 2 % 64 = (((k + 1) * (k + 2) / 2 % 64 : Nat) : Int) := by simp
    rw [e, h0e, g0z, ← x0K]
    exact hh.set _ _
   case measure => simp [intOf]; omega
  ·go_wp2_with (first | (with_reducible refine wSk 27 ?_))
   have hk24 : k = 24 := by omega
   subst hk24
   refine c0H rfl rfl Tryz.underlying339 rfl hh (is (a0u 24)) ap4 (by rw [d0f, b0S]; exact f0i) ?_
   go_wp2_with (first | (with_reducible refine e0P (o := ⟨none, .store 339 _ _, _, _, _, _⟩) ?_))
   refine d0z rfl rfl rfl rfl hh ap4 (by rw [d0f, b0S]; exact f0i) ?_ ?_
   ·intro v hv; simp [is] at hv; obtain ⟨x, _, rfl⟩ := hv; rfl
   intro w2 hh2 hf2 hz2
   go_wp2
   rw [b0L _ _ rfl] at hh2
   exact bodyPost_ret (a0B rfl rfl hh2 Tryz.underlying339 (by rw [d0f, b0S]; exact f0i)) rfl ⟨rfl, hf.new hf2 (Nat.le_refl _)⟩
end
section
open Go.RowKit Go.Mv Mvp
theorem p0H (g : Nat) (S : List UInt64) (tail : List Value) (T : TypeId) (b : Option Addr) (n c : Nat) (l : List UInt8) (w : World) (hS : S.length = 25) (hn : n ≤ 200) (hg : Has w g (ws S ++ tail) T) (hb : RdB w b n l) (hbg : Off (One g) b) :
  Calls Tryz.prog 266 #[.pointer (some ⟨g, 0, none⟩), .slice b n c] w fun e w' => e = .returned (.tuple #[]) ∧ Has w' g (ws (l0P S l n) ++ tail) T ∧ Fr (One g) w w' ∧ w'.heap.size = w.heap.size := by
 go_enter Tryz.func266, Tryz.ntmps266
 go_wp2
 go_loopw [8] (fun i wr => ∃ k : Nat, k ≤ n ∧ i = .int .i64 k ∧ Has wr g (ws (l0P S l k) ++ tail) T ∧ Fr (One g) w wr ∧ wr.heap.size = w.heap.size) (fun i _ => (n - intOf i).toNat)
 case atStart => exact ⟨0, by omega, rfl, hg, Fr.refl _ _, rfl⟩
 case round =>
  obtain ⟨k, hk, rfl, hh, hf, hz⟩ := hrel
  by_cases hlt : k < n
  ·obtain ⟨bb, o, rfl, hcb0⟩ := (hb.keep hf hbg).at ap1
   have hcb := hcb0 k hlt
   clear hcb0
   have hlen := s0r S l k
   have hi8 : k / 8 < (ws (l0P S l k)).length := by rw [a0W, hlen]; omega
   have hc : wr.cell? ⟨g, k / 8, none⟩ = some (.int .u64 (((l0P S l k).getD (k / 8) 0).toNat : Int)) := hh.cell (by rw [List.getElem?_append_left hi8]; exact e0h _ _ (by rw [hlen]; omega))
   have hfr : wr.frozen? ⟨g, k / 8, none⟩ = false := hh.free _ (by rw [List.length_append]; omega)
   have hlo : (0 : Int) ≤ (k : Int) / 8 ∧ (k : Int) / 8 < 25 := by omega
   generalize hy : (l0P S l k).getD (k / 8) 0 = y at hc
   generalize hx : l.getD k 0 = x at hcb
   have HY := qH hy; clear hy
   have HX := qH hx; clear hx
   have HL := qH hlen; clear hlen hi8
   have HZ := qH hz; clear hz
   go_wp2
   go_region
   all_goals go_wp2
   go_roundw
   case rel =>
    refine ⟨k + 1, by omega, by go_num, ?_, (hf.setCell _ _ _ _ (fun _ => rfl)).drew, by have := HZ.out; simpa [World.setCell] using this⟩
    have h1 := (hh.set (k / 8) (.int .u64 ((wx y (shl (wid x) (8 * (k % 8)))).toNat : Int))).drew
    rw [List.set_append_left _ _ (by rw [a0W, HL.out]; omega), j0Y, ← HY.out, ← HX.out] at h1
    rw [h0d, c0L, ← HY.out, ← HX.out]
    exact h1
   case measure => simp [intOf]; omega
  ·go_wp2
   go_end0
   have : k = n := by omega
   subst this
   exact ⟨rfl, hh, hf, hz⟩
end
section
open Go.RowKit Go.Mv Mvp
theorem x0R (S : List UInt64) (n i : Nat) (h : i < n) : (toB S n).getD i 0 = v0G S i := by
 simp [toB, List.getD_eq_getElem?_getD, List.getElem?_range h]
theorem _root_.ap9 {p : Prop} (h : p := by unfold maxLen; omega) : p := h
theorem p0I (g : Nat) (S : List UInt64) (tail : List Value) (T : TypeId) (n : Nat) (w : World) (hS : S.length = 25) (hn : n ≤ 200) (hg : Has w g (ws S ++ tail) T) :
  Calls Tryz.prog 268 #[.pointer (some ⟨g, 0, none⟩), .int .i64 (n : Int)] w fun e w' => e = .returned (.slice (some ⟨w.heap.size, 0, none⟩) n n) ∧ Has w' w.heap.size (bs (toB S n)) 5 ∧ Fr Nob w w' ∧ w'.heap.size = w.heap.size + 1 := by
 go_enter Tryz.func268, Tryz.ntmps268
 go_wp2_with (at_make; refine g0W rfl rfl Tryz.underlying23 d0g rfl rfl rfl n n rfl rfl ap1 ap1 ap9 ?_; intro w1 hw1 hf1 hz1)
 have hgl := hg.lt
 go_loopw [11] (fun i wr => ∃ k : Nat, k ≤ n ∧ i = .int .i64 k ∧ Has wr w.heap.size (bs (fill (toB S n) (List.replicate n 0) k)) 5 ∧ Has wr g (ws S ++ tail) T ∧ Fr Nob w wr ∧ wr.heap.size = w.heap.size + 1) (fun i _ => (n - intOf i).toNat)
 case atStart =>
  refine ⟨0, by omega, rfl, ?_, hg.keep hf1 id, hf1, hz1⟩
  rw [p0r]; simpa [bs] using hw1
 case round =>
  obtain ⟨k, hk, rfl, hh, hg2, hf, hz⟩ := hrel
  by_cases hlt : k < n
  ·obtain ⟨v0, hc0, hfr0⟩ := hh.ready (i := k) (by rw [a0C, g0X _ _ _ (by simp [f0R])]; simpa using hlt)
   have hi8 : k / 8 < (ws S).length := by rw [a0W, hS]; omega
   have hc : wr.cell? ⟨g, k / 8, none⟩ = some (.int .u64 ((S.getD (k / 8) 0).toNat : Int)) := hg2.cell (by rw [List.getElem?_append_left hi8]; exact e0h _ _ (by rw [hS]; omega))
   have hlo : (0 : Int) ≤ (k : Int) / 8 ∧ (k : Int) / 8 < 25 := by omega
   generalize hy : S.getD (k / 8) 0 = y at hc
   have HY := qH hy; clear hy
   have HS := qH hS; clear hS hi8
   have HZ := qH hz; clear hz hz1 hw1
   go_wp2
   go_roundw
   case rel =>
    have e : (toB S n).getD k 0 = lo8 (shr y (8 * (k % 8))) := by rw [x0R S n k hlt, v0G, HY.out]
    refine ⟨k + 1, by omega, by go_num, ?_, hg2.other _ _ _ ap1, hf.setCell _ _ _ _ (fun h => absurd h (Nat.lt_irrefl _)), by have := HZ.out; simpa [World.setCell] using this⟩
    rw [← e]
    exact hh.fillB (by simp [f0R]) (by simpa [f0R] using hlt)
   case measure => simp [intOf]; omega
  ·go_wp2
   go_ret
   obtain rfl : k = n := by omega
   rw [m0P _ _ _ (by simp [f0R]) (by simp [f0R])] at hh
   exact ⟨rfl, hh, hf, hz⟩
end
section
open Go.RowKit Go.Mv Mvp
theorem k0j (s : List UInt64) (k : Nat) : o0i s (k + 1) = j0c s (o0i s k) k := by simp [o0i, List.range_succ]
theorem j0f (s : List UInt64) (k : Nat) : (o0i s k).length = 5 := by
 induction k with
 | zero => simp [o0i]
 | succ k ih => rw [k0j]; simp [j0c, ih]
theorem k0k (s c : List UInt64) (t : List Nat) (k : Nat) : p0m s c t (k + 1) = j0d s c t (p0m s c t k) k := by simp [p0m, List.range_succ]
theorem m0Z (s c : List UInt64) (t : List Nat) (k : Nat) : (p0m s c t k).length = 25 := by
 induction k with
 | zero => simp [p0m]
 | succ k ih => rw [k0k]; simp [j0d, ih]
theorem p0J : (Tryz.prog.info? 339).map (·.zero) = some (some (.agg (is (List.replicate 25 0)).toArray)) := by kernel_rfl
theorem o0m : (Tryz.prog.info? 323).map (·.zero) = some (some (.agg (ws (List.replicate 25 0)).toArray)) := by kernel_rfl
theorem v0H : (Tryz.prog.info? 341).map (·.zero) = some (some (.agg (ws (List.replicate 5 0)).toArray)) := by kernel_rfl
theorem p0K : (Tryz.prog.info? 44).map (·.size) = some 1 := by kernel_rfl
theorem o0n (t : List Nat) (rc : Nat → UInt64) (s : List UInt64) : b0c t rc s 0 = s := by simp [b0c]
theorem p0L (m s : List UInt64) : l0z m s 0 = s := by simp [l0z]
theorem p0M (m s : List UInt64) (k : Nat) : l0z m s (k + 1) = d0E m (l0z m s k) (5 * k) 5 := by simp [l0z, List.range_succ]
theorem l0Q (m s : List UInt64) (y : Nat) : d0E m s y 0 = s := by simp [d0E]
theorem h0f (m s : List UInt64) (y k : Nat) : d0E m s y (k + 1) = h0c m y (d0E m s y k) k := by simp [d0E, List.range_succ]
theorem o0o (m s : List UInt64) (y k : Nat) : (d0E m s y k).length = s.length := by
 induction k with
 | zero => simp [d0E]
 | succ k ih => rw [h0f]; simp [h0c, ih]
theorem s0u (k : Nat) : (a0u 24).getD k 0 < 64 := by
 have h : ∀ k, k < 25 → (a0u 24).getD k 0 < 64 := by decide +kernel
 rcases Nat.lt_or_ge k 25 with hk | hk
 ·exact h k hk
 ·rw [List.getD_eq_getElem?_getD, List.getElem?_eq_none (by rw [b0S]; exact hk)]; simp
theorem p0N (k : Nat) (hk : k < 25) : d0D k < 25 := by
 have h : ∀ k, k < 25 → d0D k < 25 := by decide +kernel
 exact h k hk
theorem l0R (k : Nat) (w : World) (hk : k ≤ 25) : Calls Tryz.prog 277 #[.int .i64 (k : Int)] w fun e w' => e = .returned (.int .i64 ((d0D k : Nat) : Int)) ∧ w' = w :=
 (o0k k w ap1).mono (fun _ _ h => ⟨h.1, h.2.symm⟩)
theorem s0v (x : UInt64) (n : Nat) (hn : n < 64) (w : World) : Calls Tryz.prog 276 #[.int .u64 (x.toNat : Int), .int .i64 (n : Int)] w fun e w' => e = .returned (.int .u64 ((u0u x n).toNat : Int)) ∧ w' = w :=
 (p0F x n hn w).mono (fun _ _ h => ⟨h.1, h.2.symm⟩)
theorem l0S (r : Nat) (hr : r < 24) (w : World) : Calls Tryz.prog 278 #[.int .i64 (r : Int)] w fun e w' => e = .returned (.int .u64 ((rcP r 8).toNat : Int)) ∧ w' = w :=
 (o0l r hr w).mono (fun _ _ h => ⟨h.1, h.2.symm⟩)
theorem s0w (x : UInt64) (w : World) : Calls Tryz.prog 276 #[.int .u64 (x.toNat : Int), .int .i64 1] w fun e w' => e = .returned (.int .u64 ((u0u x 1).toNat : Int)) ∧ w' = w :=
 (p0F x 1 ap1 w).mono (fun _ _ h => ⟨h.1, h.2.symm⟩)
theorem _root_.ap0 {p : Prop} (h : p := by kernel_rfl) : p := h
theorem l0T (g : Nat) (S : List UInt64) (tail : List Value) (T : TypeId) (w : World) (hS : S.length = 25) (hg : Has w g (ws S ++ tail) T) :
  Calls Tryz.prog 267 #[.pointer (some ⟨g, 0, none⟩)] w fun e w' => e = .returned (.tuple #[]) ∧ Has w' g (ws (b0c (a0u 24) (fun r => rcP r 8) S 24) ++ tail) T ∧ Fr (One g) w w' := by
 go_enter Tryz.func267, Tryz.ntmps267
 go_wp2_with (first
  | (go_at_call 275; refine (p0G _).mono ?_; rintro e w1 ⟨rfl, hf1⟩)
  | (with_reducible refine e0P (o := ⟨_, .alloc 339, _, _, _, _⟩) ?_))
 have hgl := hg.lt
 refine d0I rfl rfl p0J (is (List.replicate 25 0)) (by simp [Value.cells]) ?_
 intro w2 hb2 hf2 hz2
 have hg2 := (hg.keep hf1 id).keep hf2 id
 have hgs := hf1.size
 generalize hbt : w1.heap.size = bt at *
 go_wp2_with (with_reducible refine e0P (o := ⟨none, .store 339 _ _, _, _, _, _⟩) ?_)
 refine d0z rfl rfl rfl rfl hb2 (by simp [d0f, b0S]) (by rw [d0f, b0S]; exact f0i) ?_ ?_
 ·intro v hv; simp [is] at hv; obtain ⟨x, _, rfl⟩ := hv; rfl
 intro w3 hb3 hf3 hz3
 rw [b0L _ _ (by simp [d0f, b0S])] at hb3
 have hg3 := hg2.keep hf3 (fun (h : g = bt) => by omega)
 have hfr : Fr (One g) w w3 := ((Fr.refl (One g) w).same hf1).same hf2 |>.new hf3 ap1
 clear hb2 hg2 hf1 hf2 hf3 hg
 go_wp2_with fail
 go_loopw [15] (fun i wr => ∃ r : Nat, r ≤ 24 ∧ i = .int .i64 r ∧ Has wr g (ws (b0c (a0u 24) (fun r => rcP r 8) S r) ++ tail) T ∧ Has wr bt (is (a0u 24)) 339 ∧ Fr (One g) w wr) (fun i _ => (24 - intOf i).toNat)
 case atStart => exact ⟨0, by omega, rfl, by rw [o0n]; exact hg3, hb3, hfr⟩
 case round =>
  obtain ⟨r, hr, rfl, hgr, hbr, hf⟩ := hrel
  clear hg3 hb3 hfr
  by_cases hlt : r < 24
  ·have hltI : (r : Int) < 24 := by omega
   have hpl := k0i (a0u 24) (fun r => rcP r 8) S r
   rw [hS] at hpl
   generalize hrs : b0c (a0u 24) (fun r => rcP r 8) S r = s at *
   have HR := qH hrs; clear hrs
   go_wp2_with (with_reducible refine e0P (o := ⟨_, .alloc 341, _, _, _, _⟩) ?_)
   refine d0I rfl rfl v0H (ws (List.replicate 5 0)) (by simp [Value.cells]) ?_
   intro w4 hc4 hf4 hz4
   have hg4 := hgr.keep hf4 id
   have hb4 := hbr.keep hf4 id
   have hfr4 := hf.same hf4
   have hgc := hgr.lt
   have hbc := hbr.lt
   have hwc := hf.size
   generalize wr.heap.size = gc at *
   clear hgr hbr hf hf4 hz4
   go_wp2_with fail
   go_loopw [19] (fun i wr => ∃ k : Nat, k ≤ 25 ∧ i = .int .i64 k ∧ Has wr gc (ws (o0i s k)) 341 ∧ Has wr g (ws s ++ tail) T ∧ Has wr bt (is (a0u 24)) 339 ∧ Fr (One g) w wr) (fun i _ => (25 - intOf i).toNat)
   case atStart => exact ⟨0, by omega, rfl, hc4, hg4, hb4, hfr4⟩
   case round =>
    obtain ⟨k, hk, rfl, hck, hgk, hbk, hf⟩ := hrel
    clear hc4 hg4 hb4 hfr4
    by_cases hlt2 : k < 25
    ·have hs : wr.cell? ⟨g, k, none⟩ = some (.int .u64 ((s.getD k 0).toNat : Int)) := hgk.cell (by rw [List.getElem?_append_left (by rw [a0W, hpl]; exact hlt2)]; exact e0h _ _ (by rw [hpl]; exact hlt2))
     have hc : wr.cell? ⟨gc, k % 5, none⟩ = some (.int .u64 (((o0i s k).getD (k % 5) 0).toNat : Int)) := hck.cell (e0h _ _ (by rw [j0f]; omega))
     have hfc : wr.frozen? ⟨gc, k % 5, none⟩ = false := hck.free _ (by rw [a0W, j0f]; omega)
     have hlo : (0 : Int) ≤ (k : Int) ∧ (k : Int) < 25 ∧ (0 : Int) ≤ (k : Int) % 5 ∧ (k : Int) % 5 < 5 := by omega
     generalize hx : s.getD k 0 = x at hs
     generalize hy : (o0i s k).getD (k % 5) 0 = y at hc
     have HX := qH hx; clear hx
     have HY := qH hy; clear hy
     have HS := qH hpl; clear hpl
     have HS2 := qH hS; clear hS
     go_wp2
     go_region
     all_goals go_wp2
     go_roundw
     case rel =>
      have e : o0i s (k + 1) = (o0i s k).set (k % 5) (wx y x) := by rw [k0j, j0c, HX.out, HY.out]; rfl
      refine ⟨k + 1, by omega, by go_num, ?_, (hgk.other _ _ _ ap1).drew, (hbk.other _ _ _ ap1).drew, (hf.setCell _ _ _ _ (fun h => by omega)).drew⟩
      rw [e, ← j0Y]
      exact (hck.set _ _).drew
     case measure => simp [intOf]; omega
    ·have hk25 : k = 25 := by omega
     subst hk25
     go_wp2_with (with_reducible refine e0P (o := ⟨_, .alloc 323, _, _, _, _⟩) ?_)
     refine d0I rfl rfl o0m (ws (List.replicate 25 0)) (by simp [Value.cells]) ?_
     intro w5 hm5 hf5 hz5
     have hc5 := hck.keep hf5 id
     have hg5 := hgk.keep hf5 id
     have hb5 := hbk.keep hf5 id
     have hfr5 := hf.same hf5
     have hcm := hck.lt
     have hgm := hgk.lt
     have hbm := hbk.lt
     have hwm := hf.size
     generalize wr.heap.size = gm at *
     generalize hcol : o0i s 25 = col at *
     clear hck hgk hbk hf hf5 hz5
     have hcl : col.length = 5 := by rw [← hcol, j0f]
     have HC := qH hcol; clear hcol
     have HCL := qH hcl; clear hcl
     go_wp2_with fail
     go_loopw [34] (fun i wr => ∃ k : Nat, k ≤ 25 ∧ i = .int .i64 k ∧ Has wr gm (ws (p0m s col (a0u 24) k)) 323 ∧ Has wr gc (ws col) 341 ∧ Has wr g (ws s ++ tail) T ∧ Has wr bt (is (a0u 24)) 339 ∧ Fr (One g) w wr) (fun i _ => (25 - intOf i).toNat)
     case atStart => exact ⟨0, by omega, rfl, hm5, hc5, hg5, hb5, hfr5⟩
     case round =>
      obtain ⟨k, hk, rfl, hmk, hck, hgk, hbk, hf⟩ := hrel
      clear hm5 hc5 hg5 hb5 hfr5
      by_cases hlt3 : k < 25
      ·have hs : wr.cell? ⟨g, k, none⟩ = some (.int .u64 ((s.getD k 0).toNat : Int)) := hgk.cell (by rw [List.getElem?_append_left (by rw [a0W, hpl]; exact hlt3)]; exact e0h _ _ (by rw [hpl]; exact hlt3))
       have hc4 : wr.cell? ⟨gc, (k + 4) % 5, none⟩ = some (.int .u64 ((col.getD ((k + 4) % 5) 0).toNat : Int)) := hck.cell (e0h _ _ (by rw [HCL.out]; omega))
       have hc1 : wr.cell? ⟨gc, (k + 1) % 5, none⟩ = some (.int .u64 ((col.getD ((k + 1) % 5) 0).toNat : Int)) := hck.cell (e0h _ _ (by rw [HCL.out]; omega))
       have hby : wr.cell? ⟨bt, k, none⟩ = some (.int .i64 (((a0u 24).getD k 0 : Nat) : Int)) := hbk.cell (x0J _ _ (by rw [b0S]; exact hlt3))
       have hbl : (a0u 24).getD k 0 < 64 := s0u k
       have hgt : d0D k < 25 := p0N k hlt3
       obtain ⟨v0, hcm0, hfm0⟩ := hmk.ready (i := d0D k) (by rw [a0W, m0Z]; exact hgt)
       have hlo : (0 : Int) ≤ (k : Int) ∧ (k : Int) < 25 ∧ (0 : Int) ≤ ((k : Int) + 4) % 5 ∧ ((k : Int) + 4) % 5 < 5 ∧ (0 : Int) ≤ ((k : Int) + 1) % 5 ∧ ((k : Int) + 1) % 5 < 5 := by omega
       generalize hx : s.getD k 0 = x at hs
       generalize hy4 : col.getD ((k + 4) % 5) 0 = y4 at hc4
       generalize hy1 : col.getD ((k + 1) % 5) 0 = y1 at hc1
       generalize hn : (a0u 24).getD k 0 = n at hby hbl
       have HX := qH hx; clear hx
       have HY4 := qH hy4; clear hy4
       have HY1 := qH hy1; clear hy1
       have HN := qH hn; clear hn
       have HS := qH hpl; clear hpl
       have HS2 := qH hS; clear hS
       go_wp2
       go_region
       all_goals go_wp2
       have e1 : IntKind.i64.wrap ((k : Int) + 4) = (k : Int) + 4 := IntWalk.i64_in _ ap1
       have e2 : ((k : Int) + 4).tmod 5 = ((k : Int) + 4) % 5 := Int.tmod_eq_emod_of_nonneg ap1
       have e3 : (((k : Int) + 4) % 5).toNat = (k + 4) % 5 := by omega
       have e4 : IntKind.i64.wrap ((k : Int) + 1) = (k : Int) + 1 := IntWalk.i64_in _ ap1
       have e5 : ((k : Int) + 1).tmod 5 = ((k : Int) + 1) % 5 := Int.tmod_eq_emod_of_nonneg ap1
       have e6 : (((k : Int) + 1) % 5).toNat = (k + 1) % 5 := by omega
       go_quiet ((go_at_call 276; exact o0c (s0w _ _)))
       clear e1 e2 e3 e4 e5 e6
       go_wp2_with fail
       have HG := qH hgt; clear hgt
       have hgi : (0 : Int) ≤ (d0D k : Int) ∧ (d0D k : Int) < 25 := by have := HG.out; omega
       have hmz := hmk.drew.drewN nq
       have hcz := hck.drew.drewN nq
       have hgz := hgk.drew.drewN nq
       have hbz := hbk.drew.drewN nq
       have hfz := hf.drew.drewN nq
       have hbyz : (wr.drew.drewN nq).cell? ⟨bt, k, none⟩ = some (.int .i64 (n : Int)) := hby
       have hmcz : (wr.drew.drewN nq).cell? ⟨gm, d0D k, none⟩ = some v0 := hcm0
       have hmfz : (wr.drew.drewN nq).frozen? ⟨gm, d0D k, none⟩ = false := hfm0
       clear hmk hck hgk hbk hf hby hcm0 hfm0 hs hc4 hc1
       generalize wr.drew.drewN nq = wz at *
       clear wr
       refine wp_region_still_tail 8 ap0 ap0 ?_
       simp only [List.take_succ_cons, List.take_zero, List.drop_succ_cons, List.drop_zero]
       repeat still_step
       still_call (l0R k _ hk)
       repeat still_step
       still_call (s0v _ n hbl _)
       repeat still_step
       refine wpStill_nil ?_
       go_wp2
       go_roundw
       case rel =>
        have e : p0m s col (a0u 24) (k + 1) = (p0m s col (a0u 24) k).set (d0D k) (u0u (wx x (wx y4 (u0u y1 1))) n) := by
         rw [k0k, j0d, HX.out, HY4.out, HY1.out, HN.out]; rfl
        refine ⟨k + 1, by omega, by go_num, ?_, (hcz.other _ _ _ ap1).drew, (hgz.other _ _ _ ap1).drew, (hbz.other _ _ _ ap1).drew, (hfz.setCell _ _ _ _ (fun h => by omega)).drew⟩
        rw [e, ← j0Y]
        exact (hmz.set _ _).drew
       case measure => simp [intOf]; omega
      ·obtain rfl : k = 25 := by omega
       have hml := m0Z s col (a0u 24) 25
       have hmw : p0m s col (a0u 24) 25 = p0m s (o0i s 25) (a0u 24) 25 := by rw [HC.out]
       generalize hmv : p0m s col (a0u 24) 25 = mv at *
       have HM := qH hmw; clear hmw hmv
       have HML := qH hml; clear hml
       have HPL := qH hpl; clear hpl
       have HS2 := qH hS; clear hS
       clear hck
       go_wp2_with fail
       go_loopw [10] (fun i wr => ∃ j : Nat, j ≤ 5 ∧ i = .int .i64 ((5 * j : Nat) : Int) ∧ Has wr gm (ws mv) 323 ∧ Has wr g (ws (l0z mv s j) ++ tail) T ∧ Has wr bt (is (a0u 24)) 339 ∧ Fr (One g) w wr) (fun i _ => (25 - intOf i).toNat)
       case atStart => exact ⟨0, by omega, rfl, hmk, by rw [p0L]; exact hgk, hbk, hf⟩
       case round =>
        obtain ⟨j, hj, rfl, hmj, hgj, hbj, hfj⟩ := hrel
        clear hmk hgk hbk hf
        by_cases hlt4 : j < 5
        ·have hlo : (0 : Int) ≤ 5 * (j : Int) ∧ 5 * (j : Int) < 25 ∧ 5 * (j : Int) ≤ 20 := by omega
         obtain ⟨wo, rfl⟩ : ∃ wo : World, wo = wr := ⟨_, rfl⟩
         go_wp2_with (with_reducible refine wSk 72 ?_)
         refine v0D rfl rfl Tryz.underlying323 p0K rfl rfl rfl rfl (5 * j) (5 * j + 5) (5 * j + 5) ap4 ap4 ap4 ap1 ap1 ap1 ap1 ?_
         have e5 : 5 * j + 5 - 5 * j = 5 := by omega
         rw [e5]
         clear e5
         go_wp2_with fail
         go_loopw [75] (fun i wr => ∃ x : Nat, x ≤ 5 ∧ i = .int .i64 x ∧ Has wr gm (ws mv) 323 ∧ Has wr g (ws (d0E mv (l0z mv s j) (5 * j) x) ++ tail) T ∧ Has wr bt (is (a0u 24)) 339 ∧ Fr (One g) w wr) (fun i _ => (5 - intOf i).toNat)
         case atStart => exact ⟨0, by omega, rfl, hmj, by rw [l0Q]; exact hgj, hbj, hfj⟩
         case round =>
          obtain ⟨x, hx, rfl, hmx, hgx, hbx, hfx⟩ := hrel
          clear hmj hgj hbj hfj
          by_cases hlt5 : x < 5
          ·have hml : mv.length = 25 := HML.out
           have hsl : (d0E mv (l0z mv s j) (5 * j) x).length = 25 := by rw [o0o, j0e]; exact HPL.out
           have hx0 : wr.cell? ⟨gm, 5 * j + x, none⟩ = some (.int .u64 ((mv.getD (5 * j + x) 0).toNat : Int)) := hmx.cell (e0h _ _ ap1)
           have hx1 : wr.cell? ⟨gm, 5 * j + (x + 1) % 5, none⟩ = some (.int .u64 ((mv.getD (5 * j + (x + 1) % 5) 0).toNat : Int)) := hmx.cell (e0h _ _ ap1)
           have hx2 : wr.cell? ⟨gm, 5 * j + (x + 2) % 5, none⟩ = some (.int .u64 ((mv.getD (5 * j + (x + 2) % 5) 0).toNat : Int)) := hmx.cell (e0h _ _ ap1)
           obtain ⟨v0, hc0, hf0⟩ := hgx.ready (i := 5 * j + x) (by rw [List.length_append, a0W, hsl]; omega)
           have hlo5 : (0 : Int) ≤ (x : Int) ∧ (x : Int) < 5 ∧ (0 : Int) ≤ ((x : Int) + 1) % 5 ∧ ((x : Int) + 1) % 5 < 5 ∧ (0 : Int) ≤ ((x : Int) + 2) % 5 ∧ ((x : Int) + 2) % 5 < 5 := by omega
           have hlo6 : (0 : Int) ≤ 5 * (j : Int) + (x : Int) ∧ 5 * (j : Int) + (x : Int) < 25 := by omega
           generalize hy0 : mv.getD (5 * j + x) 0 = y0 at hx0
           generalize hy1 : mv.getD (5 * j + (x + 1) % 5) 0 = y1 at hx1
           generalize hy2 : mv.getD (5 * j + (x + 2) % 5) 0 = y2 at hx2
           have HY0 := qH hy0; clear hy0
           have HY1 := qH hy1; clear hy1
           have HY2 := qH hy2; clear hy2
           have HSL := qH hsl; clear hsl hml
           go_wp2_with fail
           have e1 : IntKind.i64.wrap ((x : Int) + 1) = (x : Int) + 1 := IntWalk.i64_in _ ap1
           have e2 : ((x : Int) + 1).tmod 5 = ((x : Int) + 1) % 5 := Int.tmod_eq_emod_of_nonneg ap1
           have e3 : (((x : Int) + 1) % 5).toNat = (x + 1) % 5 := by omega
           have e4 : IntKind.i64.wrap ((x : Int) + 2) = (x : Int) + 2 := IntWalk.i64_in _ ap1
           have e5 : ((x : Int) + 2).tmod 5 = ((x : Int) + 2) % 5 := Int.tmod_eq_emod_of_nonneg ap1
           have e6 : (((x : Int) + 2) % 5).toNat = (x + 2) % 5 := by omega
           have e7 : IntKind.i64.wrap (5 * (j : Int) + (x : Int)) = 5 * (j : Int) + (x : Int) := IntWalk.i64_in _ ap1
           have e8 : (5 * (j : Int) + (x : Int)).toNat = 5 * j + x := by omega
           refine wp_region_still_tail 22 ap0 ap0 ?_
           simp only [List.take_succ_cons, List.take_zero, List.drop_succ_cons, List.drop_zero]
           repeat still_step
           refine wpStill_nil ?_
           go_wp2
           go_roundw
           case rel =>
            have e : d0E mv (l0z mv s j) (5 * j) (x + 1) = (d0E mv (l0z mv s j) (5 * j) x).set (5 * j + x) (wx y0 (wa (wn y1) y2)) := by
             rw [h0f, h0c, HY0.out, HY1.out, HY2.out]; rfl
            refine ⟨x + 1, by omega, by go_num, (hmx.other _ _ _ ap1).drew, ?_, (hbx.other _ _ _ ap1).drew, (hfx.setCell _ _ _ _ (fun _ => rfl)).drew⟩
            rw [e, ← j0Y, ← List.set_append_left _ _ (by rw [a0W, HSL.out]; omega)]
            exact (hgx.set _ _).drew
           case measure => simp [intOf]; omega
          ·have hge : ¬ ((x : Int) < 5) := by omega
           have hx5 : x = 5 := by omega
           have HX5 := qH hx5; clear hx5
           go_wp2_with fail
           go_roundw
           case rel => exact ⟨j + 1, by omega, by omega, by rw [p0M]; rw [HX5.out] at hgx; exact hgx⟩
           case measure => simp [intOf]; omega
        ·have hge : ¬ (5 * (j : Int) < 25) := by omega
         have hj5 : j = 5 := by omega
         have HJ5 := qH hj5; clear hj5
         have hsl : (l0z mv s j).length = 25 := by rw [j0e]; exact HPL.out
         have hc0 : wr.cell? ⟨g, 0, none⟩ = some (.int .u64 (((l0z mv s j).getD 0 0).toNat : Int)) := hgj.cell (by rw [List.getElem?_append_left (by rw [a0W, hsl]; omega)]; exact e0h _ _ (by rw [hsl]; omega))
         have hf0 : wr.frozen? ⟨g, 0, none⟩ = false := hgj.free _ (by rw [List.length_append, a0W, hsl]; omega)
         generalize hy : (l0z mv s j).getD 0 0 = y at hc0
         have HY := qH hy; clear hy
         have HSL := qH hsl; clear hsl
         go_wp2_with fail
         refine wp_region_still_tail 9 ap0 ap0 ?_
         simp only [List.take_succ_cons, List.take_zero, List.drop_succ_cons, List.drop_zero]
         repeat still_step
         still_call (l0S r hlt _)
         repeat still_step
         refine wpStill_nil ?_
         go_wp2
         go_roundw
         case rel =>
          have e : b0c (a0u 24) (fun r => rcP r 8) S (r + 1) = (l0z mv s j).set 0 (wx y (rcP r 8)) := by
           rw [i0r, HR.out, k0g, ← HM.out, ← HJ5.out, HY.out]; rfl
          refine ⟨r + 1, by omega, by go_num, ?_, (hbj.other _ _ _ ap1).drew, (hfj.setCell _ _ _ _ (fun _ => rfl)).drew⟩
          rw [e, ← j0Y, ← List.set_append_left _ _ (by rw [a0W, HSL.out]; omega)]
          exact (hgj.set _ _).drew
         case measure => simp [intOf]; omega
  ·obtain rfl : r = 24 := by omega
   go_wp2_with fail
   go_end0
   exact ⟨rfl, hgr, hf⟩
end
section
open Go.RowKit Go.Mv Mvp
end
end Go.Proofs.YtpfimiajoifjaaaGreat
namespace Mvp
def c0M : List UInt64 := List.replicate 25 0
def a0T (S : List UInt64) : List UInt64 := b0c (a0u 24) (fun r => rcP r 8) S 24
theorem f0j (S : List UInt64) : (a0T S).length = S.length := k0i _ _ _ _
end Mvp
namespace Go.Proofs.YtpfimiajoifjaaaGreat
section
open Go.RowKit Go.Mv Mvp
end
section
open Go.RowKit Go.Mv Mvp
end
end Go.Proofs.YtpfimiajoifjaaaGreat
namespace Mvp
def l0U (st : List UInt64 × Nat) (x : UInt8) : List UInt64 × Nat :=
 if st.2 + 1 = 136 then (a0T (c0L st.1 st.2 x), 0) else (c0L st.1 st.2 x, st.2 + 1)
def b0Z (st : List UInt64 × Nat) (l : List UInt8) : List UInt64 × Nat := l.foldl l0U st
theorem e0R (st : List UInt64 × Nat) (l m : List UInt8) : b0Z st (l ++ m) = b0Z (b0Z st l) m := by simp [b0Z]
theorem n0a (st : List UInt64 × Nat) : b0Z st [] = st := rfl
theorem e0j (st : List UInt64 × Nat) (x : UInt8) (l : List UInt8) : b0Z st (x :: l) = b0Z (l0U st x) l := rfl
def c0X : List UInt64 → Nat → List UInt8 → List UInt64
 | S, _, [] => S
 | S, k, x :: l => c0X (c0L S k x) (k + 1) l
theorem e0S (S : List UInt64) (k : Nat) (x : UInt8) : (c0L S k x).length = S.length := by simp [c0L]
theorem k0l (l : List UInt8) : ∀ (S : List UInt64) (k : Nat), (c0X S k l).length = S.length := by
 induction l with
 | nil => intro S k; rfl
 | cons x l ih => intro S k; rw [c0X, ih, e0S]
theorem o0p (l : List UInt8) : ∀ (S : List UInt64) (k : Nat), k + l.length < 136 → b0Z (S, k) l = (c0X S k l, k + l.length) := by
 induction l with
 | nil => intro S k _; rfl
 | cons x l ih =>
  intro S k h
  simp only [List.length_cons] at h
  rw [e0j, l0U, if_neg (by simp; omega), ih _ _ (by simp; omega), c0X]
  simp; omega
theorem k0m (l : List UInt8) : ∀ (S : List UInt64) (k : Nat), k + l.length = 136 → k < 136 → b0Z (S, k) l = (a0T (c0X S k l), 0) := by
 induction l with
 | nil => intro S k h h'; simp at h; omega
 | cons x l ih =>
  intro S k h h'
  simp only [List.length_cons] at h
  by_cases hl : l = []
  ·subst hl
   simp at h
   rw [e0j, l0U, if_pos (by simp; omega), n0a]
   rfl
  ·have hp : 0 < l.length := List.length_pos_iff.2 hl
   rw [e0j, l0U, if_neg (by simp; omega), ih _ _ (by simp; omega) (by simp; omega), c0X]
theorem j0g (l : List UInt8) : ∀ (st : List UInt64 × Nat), st.2 < 136 → (b0Z st l).2 < 136 := by
 induction l with
 | nil => intro st h; exact h
 | cons x l ih =>
  intro st h
  rw [e0j]
  apply ih
  unfold l0U
  split
  ·simp
  ·simp; omega
theorem g0A (l : List UInt8) : ∀ (st : List UInt64 × Nat), (b0Z st l).1.length = st.1.length := by
 induction l with
 | nil => intro st; rfl
 | cons x l ih =>
  intro st
  rw [e0j, ih]
  unfold l0U
  split
  ·simp [f0j, e0S]
  ·simp [e0S]
theorem k0n (S : List UInt64) (k : Nat) : c0L S k 0 = S := by
 have e : shl (wid 0) (8 * (k % 8)) = 0 := by
  apply UInt64.toNat_inj.1
  simp [shl, wid]
 unfold c0L
 rw [e]
 have e2 : wx (S.getD (k / 8) 0) 0 = S.getD (k / 8) 0 := by simp [wx]
 rw [e2]
 rcases Nat.lt_or_ge (k / 8) S.length with h | h
 ·have e3 : S.getD (k / 8) 0 = S[k / 8] := by simp [List.getD_eq_getElem?_getD, h]
  rw [e3]; simp
 ·exact List.set_eq_of_length_le h
theorem v0I (S : List UInt64) (b : List UInt8) (n : Nat) : n ≤ b.length → l0P S b n = c0X S 0 (b.take n) := by
 have key : ∀ (l : List UInt8) (S : List UInt64) (k : Nat) (x : UInt8), c0X S k (l ++ [x]) = c0L (c0X S k l) (k + l.length) x := by
  intro l
  induction l with
  | nil => intro S k x; rfl
  | cons y l ih =>
   intro S k x
   rw [List.cons_append, c0X, ih, c0X]
   simp [Nat.add_assoc, Nat.add_comm 1]
 induction n with
 | zero => intro _; simp [l0P, c0X]
 | succ n ih =>
  intro h
  have hn : n < b.length := by omega
  rw [h0d, ih ap1, List.take_succ_eq_append_getElem hn, key]
  congr 1
  ·simp; omega
  ·simp [List.getD_eq_getElem?_getD, hn]
theorem l0V (S : List UInt64) (k : Nat) (l : List UInt8) : ∀ j, c0X S j (List.replicate k 0 ++ l) = c0X S (j + k) l := by
 induction k with
 | zero => intro j; simp
 | succ k ih =>
  intro j
  rw [List.replicate_succ, List.cons_append, c0X, k0n, ih, Nat.add_assoc, Nat.add_comm 1 k]
theorem i0s (S : List UInt64) (k : Nat) (l rest : List UInt8) : l0P S (List.replicate k 0 ++ l ++ rest) (k + l.length) = c0X S k l := by
 rw [v0I _ _ _ ap4, List.take_left' ap4, l0V]
 simp
attribute [local irreducible] a0T toB
def o0q (k : Nat) (e : UInt8) : List UInt8 := ((e :: List.replicate (135 - k) 0).set (135 - k) (bx (((e :: List.replicate (135 - k) 0)).getD (135 - k) 0) 0x80))
theorem s0x (k : Nat) (e : UInt8) (h : k < 136) : (o0q k e).length = 136 - k := by simp [o0q]; omega
def p0O (st : List UInt64 × Nat) (e : UInt8) : List UInt64 := (b0Z st (o0q st.2 e)).1
def a0w (S : List UInt64) : Nat → List UInt8
 | 0 => []
 | k + 1 => toB S 136 ++ a0w (a0T S) k
def a0Y (S : List UInt64) : Nat → List UInt64
 | 0 => S
 | k + 1 => a0Y (a0T S) k
theorem o0r (k : Nat) : ∀ (S : List UInt64), a0Y S (k + 1) = a0T (a0Y S k) := by
 induction k with
 | zero => intro S; rfl
 | succ k ih => intro S; rw [a0Y, ih]; rfl
theorem p0P (k : Nat) : ∀ (S : List UInt64), (a0Y S k).length = S.length := by
 induction k with
 | zero => intro S; rfl
 | succ k ih => intro S; rw [a0Y, ih, f0j]
theorem k0o (k : Nat) : ∀ (S : List UInt64), a0w S (k + 1) = a0w S k ++ toB (a0Y S k) 136 := by
 induction k with
 | zero => intro S; simp [a0w, a0Y]
 | succ k ih => intro S; rw [a0w, ih (a0T S)]; rw [a0w, a0Y, List.append_assoc]
def i0t (n : Nat) : Nat := (n + 135) / 136
def z0R (S : List UInt64) (n : Nat) : List UInt8 := (a0w S (i0t n)).take n
def a0E (l : List UInt8) (e : UInt8) (n : Nat) : List UInt8 := z0R (p0O (b0Z (c0M, 0) l) e) n
end Mvp
namespace Mvp
end Mvp
namespace Go.Mv
open Go.RowKit
variable {P : Program}
theorem p0Q (p : Option Addr) (m : Nat) : c0q p 0 m = p := by
 unfold c0q
 split
 ·rfl
 ·cases p with
  | none => rfl
  | some a => simp [Addr.add]
theorem f0k (w : World) {ty : TypeId} {n : Nat} {e : TypeId} (hu : P.underlying ty = some (.array n e)) (hsz : (P.info? e).map (·.size) = some 1) (g p : Nat) (k : IntKind) (l : Nat) (h : l < n) :
  (Instr.sliceAt ty (.pointer (some ⟨g, p, none⟩)) (some (.int k (l : Int))) none none).run P w = .ok (.slice (some ⟨g, p + l, none⟩) (n - l) (n - l)) w := by
 obtain ⟨i, hi1, hi2⟩ : ∃ i, P.info? e = some i ∧ i.size = 1 := by simpa using hsz
 have hne : ¬ n = l := by omega
 have hle : l ≤ n := by omega
 simp [Instr.sliceAt, run_underlying hu, Instr.sliceBounds, a0H, hle, sizeOf, typeInfo, hi1, hi2, hne, c0V, Instr.sureAddr]
theorem d0M (w : World) {ty : TypeId} {n : Nat} {e : TypeId} (hu : P.underlying ty = some (.array n e)) (hsz : (P.info? e).map (·.size) = some 1) (g p : Nat) (k : IntKind) (h : Nat) (hh : h ≤ n) :
  (Instr.sliceAt ty (.pointer (some ⟨g, p, none⟩)) none (some (.int k (h : Int))) none).run P w = .ok (.slice (some ⟨g, p, none⟩) h n) w := by
 obtain ⟨i, hi1, hi2⟩ : ∃ i, P.info? e = some i ∧ i.size = 1 := by simpa using hsz
 simp [Instr.sliceAt, run_underlying hu, Instr.sliceBounds, a0H, hh, sizeOf, typeInfo, hi1, Addr.add, Instr.sureAddr]
theorem i0e (w : World) {ty : TypeId} {n : Nat} {e : TypeId} (hu : P.underlying ty = some (.array n e)) (hsz : (P.info? e).map (·.size) = some 1) (g p : Nat) :
  (Instr.sliceAt ty (.pointer (some ⟨g, p, none⟩)) none none none).run P w = .ok (.slice (some ⟨g, p, none⟩) n n) w := by
 obtain ⟨i, hi1, hi2⟩ : ∃ i, P.info? e = some i ∧ i.size = 1 := by simpa using hsz
 simp [Instr.sliceAt, run_underlying hu, Instr.sliceBounds, sizeOf, typeInfo, hi1, Addr.add, Instr.sureAddr]
theorem e0k (w : World) {ty e : TypeId} (hu : P.underlying ty = some (.slice e)) (hsz : (P.info? e).map (·.size) = some 1) (p : Option Addr) (n c : Nat) (k : IntKind) (h : Nat) (hh : h ≤ c) :
  (Instr.sliceAt ty (.slice p n c) none (some (.int k (h : Int))) none).run P w = .ok (.slice p h c) w := by
 obtain ⟨i, hi1, hi2⟩ : ∃ i, P.info? e = some i ∧ i.size = 1 := by simpa using hsz
 have := p0Q p c
 simp [Instr.sliceAt, Instr.slice, run_underlying hu, Instr.sliceBounds, a0H, hh, sizeOf, typeInfo, hi1, Addr.add]
theorem g0h (w : World) {ty e : TypeId} (hu : P.underlying ty = some (.slice e)) (hsz : (P.info? e).map (·.size) = some 1) (p : Option Addr) (n c : Nat) (k : IntKind) (l : Nat) (hl : l ≤ n) :
  (Instr.sliceAt ty (.slice p n c) (some (.int k (l : Int))) none none).run P w = .ok (.slice (c0q p l c) (n - l) (c - l)) w := by
 obtain ⟨i, hi1, hi2⟩ : ∃ i, P.info? e = some i ∧ i.size = 1 := by simpa using hsz
 simp [Instr.sliceAt, Instr.slice, run_underlying hu, Instr.sliceBounds, a0H, hl, sizeOf, typeInfo, hi1, hi2, c0q]
theorem x0S {w : World} {ops : Array Oper} {rest : List Oper} {o : Oper} {a : Act} {Q : Exit → Act → World → Prop} {x y : Operand} {ts : Array TypeId} (hgd : o.guard = none) (ho : o.op = .call { callee := .builtin .min, args := #[x, y], argTypes := ts })
  {k k' : IntKind} {xi yi : Int} (hx : a.eval x = .int k xi) (hy : a.eval y = .int k' yi) (r : Nat) (hr : (if yi < xi then yi else xi) = (r : Int)) (h : wpList P ops Q rest (a.put o.dst (.int k (r : Int))) w) : wpList P ops Q (o :: rest) a w := by
 refine wpList_plain hgd fun K hK => ?_
 have hrun : (Builtin.min_ ts o.type #[.int k xi, .int k' yi]).run P w = .ok (.int k (r : Int)) w := by rw [run_min_int2, hr]
 unfold Oper.wp execOp
 simp only [ho, resolve, invoke, builtin, Sem.run_bind, Sem.run_pure, Result.andThen_ok, List.map_toArray, List.map_cons, List.map_nil, hx, hy, hrun]
 exact hK _ _ h
end Go.Mv
namespace Go.Proofs.YtpfimiajoifjaaaGreat
open Go.RowKit Go.Mv Mvp
theorem k0p : (Tryz.prog.info? 332).map (·.zero) = some (some (.agg (bs (List.replicate 136 0)).toArray)) := by kernel_rfl
def abs (st : List UInt64 × Nat) : List Value := ws st.1 ++ [.int .i64 (st.2 : Int)]
theorem p0R (st : List UInt64 × Nat) : (abs st).length = st.1.length + 1 := by simp [abs, a0W]
theorem h0g (st : List UInt64 × Nat) (h : st.1.length = 25) : (abs st)[25]? = some (.int .i64 (st.2 : Int)) := by
 rw [abs, List.getElem?_append_right (by rw [a0W, h]; omega), a0W, h]; rfl
theorem p0S (S : List UInt64) (k n : Nat) (h : S.length = 25) : (abs (S, k)).set 25 (.int .i64 (n : Int)) = abs (S, n) := by
 rw [abs, List.set_append_right _ _ (by rw [a0W, h]; omega), a0W, h]; rfl
theorem p0T (S : List UInt64) : b0c (a0u 24) (fun r => rcP r 8) S 24 = a0T S := by unfold a0T; rfl
theorem h0h (S : List UInt64) (k : Nat) : ws S ++ [Value.int .i64 (k : Int)] = abs (S, k) := by unfold abs; rfl
attribute [local irreducible] a0T b0c toB a0u
theorem e0T (g : Nat) (S : List UInt64) (k : Nat) (w : World) (hS : S.length = 25) (hg : Has w g (abs (S, k)) 325) :
  Calls Tryz.prog 267 #[.pointer (some ⟨g, 0, none⟩)] w fun e w' => e = .returned (.tuple #[]) ∧ Has w' g (abs (a0T S, k)) 325 ∧ Fr (One g) w w' := by
 rw [← h0h] at hg
 refine (l0T g S [.int .i64 (k : Int)] 325 w hS hg).mono ?_
 rintro e w' ⟨h1, h2, h3⟩
 rw [p0T, h0h] at h2
 exact ⟨h1, h2, h3⟩
theorem s0y (k p : Nat) (l : List UInt8) (hl : l.length = p) (h : k + p ≤ 136) : splice (bs (List.replicate 136 0)) k (bs l) = bs (List.replicate k 0 ++ l ++ List.replicate (136 - k - p) 0) := by
 unfold splice
 rw [a0C, hl, e0O, l0D, ← e0g, ← e0g, List.append_assoc]
 rw [List.take_replicate, Nat.min_eq_left ap1, List.drop_replicate, Nat.sub_sub]
def lenV : Value → Nat
 | .slice _ n _ => n
 | _ => 0
theorem h0i (g : Nat) (st : List UInt64 × Nat) (b : Option Addr) (n c : Nat) (l : List UInt8) (w : World) (hS : st.1.length = 25) (hat : st.2 < 136) (hn : n ≤ 1000000) (hnc : n ≤ c) (hg : Has w g (abs st) 325) (hb : RdB w b n l) (hbg : Off (One g) b) :
  Calls Tryz.prog 265 #[.pointer (some ⟨g, 0, none⟩), .slice b n c] w fun e w' => e = .returned (.tuple #[]) ∧ Has w' g (abs (b0Z st l)) 325 ∧ Fr (One g) w w' := by
 go_enter Tryz.func265, Tryz.ntmps265
 go_wp2_with fail
 have hll := hb.len
 go_loopw [1] (fun v wr => ∃ (sj : List UInt64 × Nat) (r : List UInt8) (m : Nat) (a : Option Addr) (cc : Nat), v = .slice a m cc ∧ m ≤ cc ∧ m ≤ 1000000 ∧ RdB wr a m r ∧ Off (One g) a ∧ Has wr g (abs sj) 325 ∧ sj.2 < 136 ∧ sj.1.length = 25 ∧ b0Z sj r = b0Z st l ∧ Fr (One g) w wr) (fun v _ => lenV v)
 case atStart => exact ⟨st, l, n, b, c, rfl, hnc, hn, hb, hbg, hg, hat, hS, rfl, Fr.refl _ _⟩
 case round =>
  obtain ⟨⟨S, k⟩, r, m, a, cc, rfl, hcc, hmb, hra, hoa, hgj, hkj, hSj, hfe, hf⟩ := hrel
  clear hg hb hbg hat hS hll hn hnc
  simp only at hkj hSj
  have HF := qH hfe; clear hfe
  by_cases hlt : 0 < m
  ·have hc25 : wr.cell? ⟨g, 25, none⟩ = some (.int .i64 (k : Int)) := hgj.cell (h0g (S, k) hSj)
   have hf25 : wr.frozen? ⟨g, 25, none⟩ = false := hgj.free _ (by rw [p0R]; simp only; omega)
   have HS := qH hSj; clear hSj
   go_wp2_with (with_reducible refine wSk 16 ?_)
   obtain ⟨p, hp, hp1, hp2, hp3⟩ : ∃ p : Nat, (if 136 - (k : Int) < (m : Int) then 136 - (k : Int) else (m : Int)) = (p : Int) ∧ p ≤ m ∧ k + p ≤ 136 ∧ (p = m ∨ k + p = 136) := by
    refine ⟨min m (136 - k), ?_, by omega, by omega, by omega⟩
    split <;> omega
   refine x0S rfl rfl rfl rfl p hp ?_
   clear hp
   have HP := qH hp3; clear hp3
   go_wp2_with (with_reducible refine e0P (o := ⟨_, .alloc 332, _, _, _, _⟩) ?_)
   refine d0I rfl rfl k0p (bs (List.replicate 136 0)) (by simp [Value.cells]) ?_
   intro w1 hp1' hf1 hz1
   have hg1 := hgj.keep hf1 id
   have hr1 := hra.still hf1
   have hc1 : w1.cell? ⟨g, 25, none⟩ = some (.int .i64 (k : Int)) := hf1.cell id hc25
   have hgp : g < wr.heap.size := hgj.lt
   have hfr1 := hf.same hf1
   have hpw : w.heap.size ≤ wr.heap.size := hf.size
   have hra0 : Off (One wr.heap.size) a := fun x hx (e : x.block = wr.heap.size) => by
    obtain ⟨bb, o, rfl, hat⟩ := Rd.at hra hlt
    have := Rd.lt hra hlt
    simp only [Option.some.injEq] at hx
    subst hx
    simp at e
    omega
   generalize wr.heap.size = gp at *
   clear hgj hra hc25 hf25 hf1 hz1
   have hk136 : k < 136 := hkj
   go_wp2_with fail
   have e1 : ∀ wx, (Instr.sliceAt 332 (.pointer (some ⟨gp, 0, none⟩)) (some (.int .i64 (k : Int))) none none).run Tryz.prog wx = .ok (.slice (some ⟨gp, k, none⟩) (136 - k) (136 - k)) wx := fun wx => by
    have := f0k wx Tryz.underlying332 c0E gp 0 .i64 k hk136
    rwa [Nat.zero_add] at this
   have e2 : ∀ wx, (Instr.sliceAt 23 (.slice a m cc) none (some (.int .i64 (p : Int))) none).run Tryz.prog wx = .ok (.slice a p cc) wx := fun wx => e0k wx Tryz.underlying23 c0E a m cc .i64 p ap1
   refine wp_region_still_tail 8 ap0 ap0 ?_
   simp only [List.take_succ_cons, List.take_zero, List.drop_succ_cons, List.drop_zero]
   repeat still_step
   refine wpStill_nil ?_
   show wpList _ _ _ _ _ w1.drew
   have hrp : Rd w1.drew a p (bs (r.take p)) := by
    have hlen := hr1.len
    refine ⟨by rw [a0C, List.length_take]; omega, hr1.2.imp (fun h0 => by omega) ?_⟩
    rintro ⟨b, o, rfl, hc⟩
    refine ⟨b, o, rfl, fun i v hv => ?_⟩
    have := hc i v
    rw [← e0O, List.getElem?_take] at hv
    split at hv
    ·exact hc i v hv
    ·cases hv
   refine p0q rfl rfl Tryz.underlying23 c0E rfl rfl (hp1'.drew) hrp (m0M _) (by rw [a0C, List.length_replicate]; omega) ?_
   intro w2 hp2' hf2 hz2
   have hmin : min p (136 - k) = p := by omega
   have hrl : (r.take p).length = p := by rw [List.length_take, hr1.len]; omega
   rw [hmin, List.take_of_length_le (by rw [a0C, hrl]; exact Nat.le_refl _), s0y k p _ hrl hp2] at hp2'
   have hg2 := hg1.drew.keep hf2 (fun (h : g = gp) => by omega)
   have hr2 : RdB w2 a m r := hr1.keep ((Fr.refl (One gp) w1).drew.trans hf2 (fun _ _ t => t)) hra0
   have hfr2 : Fr (One g) w w2 := (hfr1.drew).new hf2 hpw
   have hgp2 := hp2'.lt
   clear hp1' hg1 hr1 hc1 hfr1 hf2 hz2 hrp e1 e2 hmin
   go_wp2_with fail
   have hc2 : w2.cell? ⟨g, 25, none⟩ = some (.int .i64 (k : Int)) := hg2.cell (h0g (S, k) HS.out)
   have e3 : ∀ wx, (Instr.sliceAt 332 (.pointer (some ⟨gp, 0, none⟩)) none (some (.int .i64 ((k : Int) + (p : Int)))) none).run Tryz.prog wx = .ok (.slice (some ⟨gp, 0, none⟩) (k + p) 136) wx := fun wx =>
    d0M wx Tryz.underlying332 c0E gp 0 .i64 (k + p) hp2
   have e4 : IntKind.i64.wrap ((k : Int) + (p : Int)) = (k : Int) + (p : Int) := IntWalk.i64_in _ ap1
   refine wp_region_still_tail 10 ap0 ap0 ?_
   simp only [List.take_succ_cons, List.take_zero, List.drop_succ_cons, List.drop_zero]
   repeat still_step
   refine wpStill_nil ?_
   show wpList _ _ _ _ _ w2.drew
   go_wp2_with fail
   have hrd : RdB w2.drew (some ⟨gp, 0, none⟩) (k + p) (List.replicate k 0 ++ r.take p) := by
    have := Rd.ofHas hp2'.drew 0 (n := k + p) (by rw [a0C, List.length_append, List.length_append, List.length_replicate, List.length_replicate, hrl]; omega)
    rw [List.drop_zero, e0O, List.take_left' (by simp [hrl])] at this
    exact this
   refine (p0H g S [.int .i64 (k : Int)] 325 _ (k + p) _ _ _ HS.out ap1 hg2.drew hrd (fun x hx (e : x.block = g) => by simp only [Option.some.injEq] at hx; subst hx; simp at e; omega)).mono ?_
   rintro e w3 ⟨rfl, hg3, hf3, hz3⟩
   have hxb : l0P S (List.replicate k 0 ++ r.take p) (k + p) = c0X S k (r.take p) := by
    have := i0s S k (r.take p) []
    rwa [List.append_nil, hrl] at this
   rw [hxb] at hg3
   have hr3 : RdB w3 a m r := hr2.keep ((Fr.refl (One g) w2).drew.trans hf3 (fun _ _ t => t)) hoa
   have hfr3 : Fr (One g) w w3 := hfr2.drew.trans hf3 (fun _ _ t => t)
   have hSl : (c0X S k (r.take p)).length = 25 := by rw [k0l, HS.out]
   have hfeed : b0Z (b0Z (S, k) (r.take p)) (r.drop p) = b0Z st l := by rw [← e0R, List.take_append_drop]; exact HF.out
   clear hg2 hr2 hfr2 hp2' hgp2 hc2 e3 e4 hrd hf3 hz3 hxb
   have hc3 : w3.cell? ⟨g, 25, none⟩ = some (.int .i64 (k : Int)) := hg3.cell (h0g (_, k) hSl)
   have hf3 : w3.frozen? ⟨g, 25, none⟩ = false := hg3.free _ (by rw [List.length_append, a0W, hSl]; simp)
   generalize hxs : c0X S k (r.take p) = S3 at *
   have HXS := qH hxs; clear hxs
   have HFE := qH hfeed; clear hfeed
   have HSL := qH hSl; clear hSl
   have HRL := qH hrl; clear hrl
   go_wp2_with (with_reducible refine wSk 47 ?_)
   refine g0f rfl rfl Tryz.underlying23 c0E rfl p m ⟨_, rfl⟩ rfl hp1 hcc ?_
   have hg4 : Has (w3.setCell ⟨g, 25, none⟩ (.int .i64 ((k + p : Nat) : Int))) g (abs (S3, k + p)) 325 := by
    have := hg3.set 25 (.int .i64 ((k + p : Nat) : Int))
    rw [show ws S3 ++ [Value.int .i64 (k : Int)] = abs (S3, k) from rfl, p0S _ _ _ HSL.out] at this
    exact this
   have hr4 : RdB (w3.setCell ⟨g, 25, none⟩ (.int .i64 ((k + p : Nat) : Int))) (c0q a p cc) (m - p) (r.drop p) := by
    have h1 := hr3.keep ((Fr.refl (One g) w3).setCell g 25 none (.int .i64 ((k + p : Nat) : Int)) (fun _ => rfl)) hoa
    have h2 := i0V h1 p m cc hp1 hcc (Nat.le_refl _)
    rw [l0D, e0O] at h2
    rwa [List.take_of_length_le (by rw [List.length_drop, h1.len]; exact Nat.le_refl _)] at h2
   have hfr4 : Fr (One g) w (w3.setCell ⟨g, 25, none⟩ (.int .i64 ((k + p : Nat) : Int))) := hfr3.setCell g 25 none _ (fun _ => rfl)
   have hoff4 := p0w hoa p cc
   have hsp : Value.int .i64 ((k : Int) + (p : Int)) = .int .i64 ((k + p : Nat) : Int) := by simp
   simp only [Int.natCast_add] at hg4 hr4 hfr4
   generalize w3.setCell ⟨g, 25, none⟩ (.int .i64 ((k : Int) + (p : Int))) = w4 at *
   clear hsp hg3 hr3 hfr3 hc3 hf3
   by_cases hfull : k + p = 136
   ·have hfb : ((k : Int) + (p : Int) == 136) = true := by rw [beq_iff_eq]; omega
    have HFULL := qH hfull; clear hfull
    have hc4 : w4.cell? ⟨g, 25, none⟩ = some (.int .i64 ((k : Int) + (p : Int))) := hg4.cell (h0g (S3, k + p) HSL.out)
    go_wp2_with fail
    refine (e0T g S3 (k + p) _ HSL.out hg4).mono ?_
    rintro e w5 ⟨rfl, hg5', hf5⟩
    have hr5 := hr4.keep hf5 hoff4
    have hfr5 : Fr (One g) w w5 := hfr4.trans hf5 (fun _ _ t => t)
    have hpl : (a0T S3).length = 25 := by rw [f0j, HSL.out]
    have hc5 : w5.cell? ⟨g, 25, none⟩ = some (.int .i64 ((k + p : Nat) : Int)) := hg5'.cell (h0g (_, k + p) hpl)
    have hf5f : w5.frozen? ⟨g, 25, none⟩ = false := hg5'.free _ (by rw [p0R]; simp only; omega)
    clear hg4 hr4 hfr4 hc4 hf5
    have HPL := qH hpl; clear hpl
    go_wp2_with fail
    go_roundw
    case rel =>
     have e : b0Z (S, k) (r.take p) = (a0T S3, 0) := by rw [k0m _ _ _ (by rw [HRL.out]; exact HFULL.out) hkj, HXS.out]
     have h2 := HFE.out
     rw [e] at h2
     have hg6 := hg5'.set 25 (.int .i64 ((0 : Nat) : Int))
     rw [p0S _ _ _ HPL.out] at hg6
     exact ⟨(a0T S3, 0), r.drop p, m - p, c0q a p cc, cc - p, rfl, by omega, by omega, hr5.keep ((Fr.refl (One g) w5).setCell g 25 none _ (fun _ => rfl)) hoff4, hoff4, hg6, by simp, HPL.out, h2, hfr5.setCell g 25 none _ (fun _ => rfl)⟩
    case measure => have := HP.out; simp [lenV]; omega
   ·have hfb : ((k : Int) + (p : Int) == 136) = false := by rw [beq_eq_false_iff_ne]; omega
    have hc4 : w4.cell? ⟨g, 25, none⟩ = some (.int .i64 ((k : Int) + (p : Int))) := hg4.cell (h0g (S3, k + p) HSL.out)
    have hlt136 : k + p < 136 := by omega
    go_wp2_with fail
    go_roundw
    case rel =>
     have e : b0Z (S, k) (r.take p) = (S3, k + p) := by rw [o0p _ _ _ (by rw [HRL.out]; exact hlt136), HXS.out, HRL.out]
     have h2 := HFE.out
     rw [e] at h2
     exact ⟨(S3, k + p), r.drop p, m - p, c0q a p cc, cc - p, rfl, by omega, by omega, hr4, hoff4, hg4, hlt136, HSL.out, h2, hfr4⟩
    case measure => have := HP.out; simp [lenV]; omega
  ·have hge : ¬ 0 < m := hlt
   have hm0 : m = 0 := by omega
   have hr0 : r = [] := List.eq_nil_of_length_eq_zero (by rw [hra.len, hm0])
   have HR := qH hr0; clear hr0 hm0
   go_wp2_with fail
   go_end0
   have h2 := HF.out
   rw [HR.out, n0a] at h2
   exact ⟨rfl, by rw [← h2]; exact hgj, hf⟩
end Go.Proofs.YtpfimiajoifjaaaGreat
namespace Mvp
def addB (b p : List UInt8) : Nat → List UInt8
 | 0 => b
 | j + 1 => (addB b p j).set j (bx ((addB b p j).getD j 0) (p.getD j 0))
end Mvp
namespace Go.Proofs.YtpfimiajoifjaaaGreat
section
open Go.RowKit Go.Mv Mvp
attribute [local irreducible] a0T b0c toB a0u a0w a0Y
theorem Rd.take {w : World} {a : Option Addr} {n : Nat} {vs : List Value} (h : Rd w a n vs) (p : Nat) (hp : p ≤ n) : Rd w a p (vs.take p) := by
 refine ⟨by rw [List.length_take, h.len]; omega, h.2.imp (fun h0 => by omega) ?_⟩
 rintro ⟨b, o, rfl, hc⟩
 refine ⟨b, o, rfl, fun i v hv => ?_⟩
 rw [List.getElem?_take] at hv
 split at hv
 ·exact hc i v hv
 ·cases hv
theorem o0s (l m : List UInt8) : mkS l ++ mkS m = mkS (l ++ m) := by
 apply ByteArray.ext
 simp [mkS]
end
section
open Go.RowKit Go.Mv Mvp
theorem k0q (S : List UInt64) : a0w S 0 = [] := by unfold a0w; rfl
theorem o0t (S : List UInt64) : a0Y S 0 = S := by unfold a0Y; rfl
theorem v0J {w : World} {base : Nat} {T : TypeId} {a : Option Addr} {m c : Nat} {L : List Value} (h : Own w base T 1 (.slice a m c) m L) (n : Nat) (hn : n ≤ m) : Own w base T 1 (.slice a n n) n (L.take n) := by
 obtain ⟨hl, h | ⟨g, o, cap, B, hv, hb, hg, h1, h2, h3, h4⟩⟩ := h
 ·obtain ⟨hv, hm⟩ := h
  cases hv
  have : n = 0 := by omega
  subst this
  exact ⟨by simp, .inl ⟨rfl, rfl⟩⟩
 ·cases hv
  refine ⟨by rw [List.length_take]; omega, .inr ⟨g, o, n, B, rfl, hb, hg, Nat.le_refl _, by omega, by omega, ?_⟩⟩
  rw [← h4, List.take_take]
  congr 1
  omega
attribute [local irreducible] a0T b0c toB a0u a0w a0Y
theorem v0K (k : Nat) (e : UInt8) (h : k < 136) : ((List.replicate 136 (0 : UInt8)).set k e).set 135 (bx (((List.replicate 136 (0 : UInt8)).set k e).getD 135 0) 0x80) = List.replicate k 0 ++ o0q k e := by
 have h1 : (List.replicate 136 (0 : UInt8)).set k e = List.replicate k 0 ++ (e :: List.replicate (135 - k) 0) := by
  have : (List.replicate 136 (0 : UInt8)) = List.replicate k 0 ++ (0 :: List.replicate (135 - k) 0) := by
   rw [← List.replicate_succ, List.replicate_append_replicate]; congr 1; omega
  rw [this, List.set_append_right _ _ ap4]
  simp
 have h2 : (List.replicate k 0 ++ (e :: List.replicate (135 - k) 0)).getD 135 0 = (e :: List.replicate (135 - k) 0).getD (135 - k) 0 := by
  rw [List.getD_eq_getElem?_getD, List.getD_eq_getElem?_getD, List.getElem?_append_right (by simp; omega), List.length_replicate]
 rw [h1, h2, List.set_append_right _ _ (by simp; omega)]
 simp only [List.length_replicate, o0q]
theorem p0U (n j : Nat) : 136 * j < n ↔ j < i0t n := by unfold i0t; omega
theorem p0V (g : Nat) (S : List UInt64) (k : Nat) (e : UInt8) (n : Nat) (w : World) (hS : S.length = 25) (hk : k < 136) (hn : n ≤ 20000) (hg : Has w g (abs (S, k)) 325) :
  Calls Tryz.prog 257 #[.pointer (some ⟨g, 0, none⟩), .int .u8 (e.toNat : Int), .int .i64 (n : Int)] w fun r w' => ∃ v, r = .returned v ∧ Own w' w.heap.size 5 1 v n (bs (z0R (p0O (S, k) e) n)) ∧ Fr (One g) w w' := by
 go_enter Tryz.func257, Tryz.ntmps257
 go_wp2_with (with_reducible refine e0P (o := ⟨_, .alloc 332, _, _, _, _⟩) ?_)
 refine d0I rfl rfl k0p (bs (List.replicate 136 0)) (by simp [Value.cells]) ?_
 intro w1 hl1 hf1 hz1
 have hg1 := hg.keep hf1 id
 have hgl := hg.lt
 have hfr1 : Fr (One g) w w1 := (Fr.refl (One g) w).same hf1
 have hb0 : w.heap.size ≤ w1.heap.size := hf1.size
 generalize hgl0 : w.heap.size = gl at *
 have HGL := qH hgl0; clear hgl0
 clear hf1 hz1 hg
 have hc25 : w1.cell? ⟨g, 25, none⟩ = some (.int .i64 (k : Int)) := hg1.cell (h0g (S, k) hS)
 obtain ⟨vk, hck, hfk⟩ := hl1.ready (i := k) (by rw [a0C]; simpa using hk)
 have hkI : (k : Int) < 136 := by omega
 go_wp2_with (with_reducible refine wSk 15 ?_)
 have hl2 := hl1.set k (.int .u8 (e.toNat : Int))
 rw [j0X] at hl2
 have hg2 := hg1.other (g' := gl) k none (.int .u8 (e.toNat : Int)) ap1
 have hfr2 : Fr (One g) w (w1.setCell ⟨gl, k, none⟩ (.int .u8 (e.toNat : Int))) := hfr1.setCell gl k none _ (fun h => by have := HGL.out; omega)
 have hsz2 : gl < (w1.setCell ⟨gl, k, none⟩ (.int .u8 (e.toNat : Int))).heap.size := hl2.lt
 generalize w1.setCell ⟨gl, k, none⟩ (.int .u8 (e.toNat : Int)) = w2 at *
 clear hl1 hg1 hfr1 hc25 hck hfk hb0
 have hc135 : w2.cell? ⟨gl, 135, none⟩ = some (.int .u8 ((((List.replicate 136 (0 : UInt8)).set k e).getD 135 0).toNat : Int)) := hl2.cell (p0p _ _ ap4)
 have hf135 : w2.frozen? ⟨gl, 135, none⟩ = false := hl2.free _ (by rw [a0C]; simp)
 generalize hy : ((List.replicate 136 (0 : UInt8)).set k e).getD 135 0 = y at hc135
 have HY := qH hy; clear hy
 show wpList _ _ _ _ _ _
 go_wp2_with fail
 have hbx : bits BinOp.xor IntKind.u8 (y.toNat : Int) 128 = ((bx y 128).toNat : Int) := m0R y 128
 rw [hbx]
 have hl3 := hl2.set 135 (.int .u8 ((bx y 0x80).toNat : Int))
 rw [j0X, ← HY.out, v0K k e hk] at hl3
 rw [HY.out] at hl3
 have hg3 := hg2.other (g' := gl) 135 none (.int .u8 ((bx y 128).toNat : Int)) ap1
 have hfr3 : Fr (One g) w (w2.setCell ⟨gl, 135, none⟩ (.int .u8 ((bx y 128).toNat : Int))) := hfr2.setCell gl 135 none _ (fun h => by have := HGL.out; omega)
 generalize w2.setCell ⟨gl, 135, none⟩ (.int .u8 ((bx y 128).toNat : Int)) = w3 at *
 have hpl : (o0q k e).length = 136 - k := s0x k e hk
 have hne : g ≠ gl := by omega
 clear hl2 hg2 hfr2 hc135 hf135 hbx hsz2 HY
 have e1 : ∀ wx, (Instr.sliceAt 332 (.pointer (some ⟨gl, 0, none⟩)) none none none).run Tryz.prog wx = .ok (.slice (some ⟨gl, 0, none⟩) 136 136) wx := fun wx => i0e wx Tryz.underlying332 c0E gl 0
 refine wp_region_still_tail 4 ap0 ap0 ?_
 simp only [List.take_succ_cons, List.take_zero, List.drop_succ_cons, List.drop_zero]
 repeat still_step
 refine wpStill_nil ?_
 show wpList _ _ _ _ _ w3.drew
 go_wp2_with fail
 have hrd : RdB w3.drew (some ⟨gl, 0, none⟩) 136 (List.replicate k 0 ++ o0q k e) := by
  have := Rd.whole hl3.drew
  rwa [a0C, List.length_append, List.length_replicate, hpl, show k + (136 - k) = 136 by omega] at this
 refine (p0H g S [.int .i64 (k : Int)] 325 _ 136 _ _ _ hS ap1 hg3.drew hrd (fun x hx (e : x.block = g) => by simp only [Option.some.injEq] at hx; subst hx; simp at e; omega)).mono ?_
 rintro e w4 ⟨rfl, hg4, hf4, hz4⟩
 have hxb : l0P S (List.replicate k 0 ++ o0q k e) 136 = c0X S k (o0q k e) := by
  have := i0s S k (o0q k e) []
  rwa [List.append_nil, hpl, show k + (136 - k) = 136 by omega] at this
 rw [hxb, h0h] at hg4
 have hfr4 : Fr (One g) w w4 := hfr3.drew.trans hf4 (fun _ _ t => t)
 have hend : p0O (S, k) e = a0T (c0X S k (o0q k e)) := by
  unfold p0O
  rw [k0m _ _ _ (by simp only [hpl]; omega) hk]
 have hxl : (c0X S k (o0q k e)).length = 25 := by rw [k0l, hS]
 clear hl3 hg3 hfr3 e1 hrd hf4 hz4 hxb hpl
 generalize c0X S k (o0q k e) = X at *
 have HEND := qH hend; clear hend
 go_wp2_with fail
 refine (e0T g X k _ hxl hg4).mono ?_
 rintro e w5 ⟨rfl, hg5, hf5⟩
 have hfr5 : Fr (One g) w w5 := hfr4.trans hf5 (fun _ _ t => t)
 have hS5 : (a0T X).length = 25 := by rw [f0j, hxl]
 generalize a0T X = S0 at *
 clear hg4 hfr4 hf5 hxl hS
 go_wp2_with fail
 go_loopw [8] (fun v wr => ∃ j, j ≤ i0t n ∧ Own wr w.heap.size 5 1 v (136 * j) (bs (a0w S0 j)) ∧ Has wr g (abs (a0Y S0 j, k)) 325 ∧ Fr (One g) w wr) (fun v _ => n - lenV v)
 case atStart => exact ⟨0, Nat.zero_le _, by rw [k0q]; exact Own.nil _ _ _ _, by rw [o0t]; exact hg5, hfr5⟩
 case round =>
  obtain ⟨j, hj, hown, hgj, hfj⟩ := hrel
  clear hg5 hfr5
  have hjn := p0U n j
  obtain ⟨a, cap, rfl, hcap, hrdj, hna⟩ := hown.form
  by_cases hlt : 136 * j < n
  ·have hltI : 136 * (j : Int) < (n : Int) := by omega
   have hpj : (a0Y S0 j).length = 25 := by rw [p0P, hS5]
   have hjp : j + 1 ≤ i0t n := hjn.1 hlt
   have HJN := qH hjn; clear hjn
   have HLT := qH hlt; clear hlt
   clear hrdj hna
   go_wp2_with fail
   rw [← h0h] at hgj
   refine (p0I g (a0Y S0 j) [.int .i64 (k : Int)] 325 136 _ hpj ap1 hgj).mono ?_
   rintro e w6 ⟨rfl, ht6, hf6, hz6⟩
   have hg6 := hgj.keep hf6 id
   rw [h0h] at hg6
   have hown6 := hown.still hf6
   have hfr6 : Fr (One g) w w6 := hfj.same hf6
   have hwb : w.heap.size ≤ wr.heap.size := hfj.size
   have hgb : g < w.heap.size := by have := HGL.out; omega
   generalize wr.heap.size = gt at *
   clear hgj hown hfj hf6
   go_wp2_with (with_reducible refine wSk 37 ?_)
   have hrd6 : Rd w6 (some ⟨gt, 0, none⟩) (136 * 1) (bs (toB (a0Y S0 j) 136)) := by
    have := Rd.whole ht6
    rwa [a0C, f0R] at this
   refine c0p rfl rfl Tryz.underlying23 d0g rfl ap2 hown6 rfl rfl hrd6 (m0M _) ap9 ap1 hfr6.size ?_
   intro v7 w7 hown7 hf7 hb7
   have hg7 := hg6.keep hf7 (fun hh => by have := hown6.lt hh; omega)
   have hfr7 : Fr (One g) w w7 := hown6.fr hfr6 (Nat.le_refl _) hf7
   rw [← e0g, ← k0o] at hown7
   clear ht6 hg6 hown6 hfr6 hrd6 hf7 hb7
   go_wp2_with fail
   refine (e0T g _ k _ hpj hg7).mono ?_
   rintro e w8 ⟨rfl, hg8, hf8⟩
   rw [← o0r] at hg8
   have hown8 := hown7.keep hf8 (fun k' hk' (h : k' = g) => by have := hown7.lt hk'; omega)
   have hfr8 : Fr (One g) w w8 := hfr7.trans hf8 (fun _ _ t => t)
   clear hg7 hown7 hfr7 hf8
   go_wp2_with fail
   go_roundw
   case rel => exact ⟨j + 1, hjp, hown8, hg8, hfr8⟩
   case measure =>
    obtain ⟨a8, c8, rfl, _⟩ := hown8.form
    have := HLT.out
    simp [lenV]; omega
  ·have hge : ¬ (136 * (j : Int) < (n : Int)) := by omega
   have hjp : j = i0t n := by have := hjn.2; omega
   have HJP := qH hjp; clear hjp
   have HJN := qH hjn; clear hjn
   have hnc : n ≤ cap := by omega
   have hnI : ¬ (n : Int) < 0 := by omega
   clear hgj
   go_wp2_with (with_reducible refine wSk 45 ?_)
   refine v0E rfl rfl Tryz.underlying23 c0E rfl 0 n n rfl rfl rfl rfl rfl (Nat.zero_le _) (Nat.le_refl _) hnc ?_
   go_wp2_with fail
   go_ret
   rw [p0Q]
   refine ⟨_, rfl, ?_, hfj⟩
   have hsq : bs (z0R (p0O (S, k) e) n) = (bs (a0w S0 j)).take n := by
    rw [HEND.out, HJP.out, z0R, e0O]
   rw [hsq]
   exact v0J hown n ap1
end
end Go.Proofs.YtpfimiajoifjaaaGreat
namespace Mvp
def e0U (n : Nat) : List UInt8 := [UInt8.ofNat (n / 16777216), UInt8.ofNat (n / 65536), UInt8.ofNat (n / 256), UInt8.ofNat n]
def a0S (l : List UInt8) : List UInt8 := e0U l.length ++ l
def a0x (ls : List (List UInt8)) : List UInt8 := (ls.map a0S).flatten
theorem i0f (a b : List (List UInt8)) : a0x (a ++ b) = a0x a ++ a0x b := by simp [a0x]
theorem h0j (a : List UInt8) : a0x [a] = a0S a := by simp [a0x]
end Mvp
namespace Go.Proofs.YtpfimiajoifjaaaGreat
section
open Go.RowKit Go.Mv Mvp
attribute [local irreducible] a0T b0c toB a0u a0w a0Y a0E
theorem f0l (k : Nat) : ((UInt8.ofNat k).toNat : Int) = ((k % 256 : Nat) : Int) := by simp
theorem u0A (n : Nat) (h : n ≤ 1000000) : Value.int .u8 ((n : Int) / 16777216) = .int .u8 ((UInt8.ofNat (n / 16777216)).toNat : Int) := by
 rw [f0l]; congr 1; omega
theorem u0B (n : Nat) (h : n ≤ 1000000) : Value.int .u8 ((n : Int) / 65536) = .int .u8 ((UInt8.ofNat (n / 65536)).toNat : Int) := by
 rw [f0l]; congr 1; omega
theorem u0C (n : Nat) : Value.int .u8 ((n : Int) / 256 % 256) = .int .u8 ((UInt8.ofNat (n / 256)).toNat : Int) := by
 rw [f0l]; rfl
theorem u0D (n : Nat) : Value.int .u8 ((n : Int) % 256) = .int .u8 ((UInt8.ofNat n).toNat : Int) := by
 rw [f0l]; rfl
theorem f0m (n : Nat) : (e0U n).length = 4 := rfl
theorem k0r (g : Nat) (st : List UInt64 × Nat) (b : Option Addr) (n c : Nat) (l : List UInt8) (w : World) (hS : st.1.length = 25) (hat : st.2 < 136) (hn : n ≤ 1000000) (hnc : n ≤ c) (hg : Has w g (abs st) 325) (hb : RdB w b n l) (hbg : Off (One g) b) :
  Calls Tryz.prog 256 #[.pointer (some ⟨g, 0, none⟩), .slice b n c] w fun e w' => e = .returned (.tuple #[]) ∧ Has w' g (abs (b0Z st (a0S l))) 325 ∧ Fr (One g) w w' := by
 go_enter Tryz.func256, Tryz.ntmps256
 go_wp2_with (with_reducible refine wSk 19 ?_)
 refine p0x rfl rfl Tryz.underlying23 d0g _ _ _ _ (u0A n hn) (u0B n hn) (u0C n) (u0D n) ?_
 intro w1 hh1 hf1 hz1
 have hh1' : Has w1 w.heap.size (bs (e0U n)) 5 := hh1
 have hg1 := hg.keep hf1 id
 have hb1 := hb.still hf1
 have hgl := hg.lt
 generalize w.heap.size = g4 at *
 clear hg hb hh1
 have hrd : RdB w1 (some ⟨g4, 0, none⟩) 4 (e0U n) := by
  have := Rd.whole hh1'
  rwa [a0C, f0m] at this
 go_wp2_with fail
 refine (h0i g st _ 4 4 (e0U n) w1 hS hat ap1 ap1 hg1 hrd (fun x hx (e : x.block = g) => by simp only [Option.some.injEq] at hx; subst hx; simp at e; omega)).mono ?_
 rintro e w2 ⟨rfl, hg2, hf2⟩
 have hb2 := hb1.keep hf2 hbg
 have hfr2 : Fr (One g) w w2 := ((Fr.refl (One g) w).same hf1).trans hf2 (fun _ _ t => t)
 clear hf1 hz1 hh1' hg1 hb1 hrd hf2
 go_wp2_with fail
 refine (h0i g (b0Z st (e0U n)) b n c l w2 (by rw [g0A, hS]) (j0g _ _ hat) hn hnc hg2 hb2 hbg).mono ?_
 rintro e w3 ⟨rfl, hg3, hf3⟩
 go_wp2_with fail
 go_end0
 rw [← e0R, ← hb2.len] at hg3
 exact ⟨rfl, hg3, hfr2.trans hf3 (fun _ _ t => t)⟩
end
section
open Go.RowKit Go.Mv Mvp
attribute [local irreducible] a0T b0c toB a0u a0w a0Y
theorem k0s : Tryz.prog.built 325 [] = some (abs (c0M, 0)).toArray := by unfold abs; kernel_rfl
theorem v0L (l : List UInt8) : (b0Z (c0M, 0) l).1.length = 25 ∧ (b0Z (c0M, 0) l).2 < 136 := ⟨by rw [g0A]; rfl, j0g _ _ ap2⟩
theorem o0u (b : Option Addr) (n c : Nat) (l : List UInt8) (m : Nat) (w : World) (hm : m ≤ 20000) (hn : n ≤ 1000000) (hnc : n ≤ c) (hb : RdB w b n l) (ho : Old w b) :
  Calls Tryz.prog 263 #[.slice b n c, .int .i64 (m : Int)] w fun r w' => ∃ v, r = .returned v ∧ Own w' w.heap.size 5 1 v m (bs (a0E l 31 m)) ∧ Fr Nob w w' := by
 go_enter Tryz.func263, Tryz.ntmps263
 go_wp2_with (with_reducible refine wSk 6 ?_)
 refine c0r rfl rfl _ k0s ?_
 refine k0d rfl rfl rfl (abs (c0M, 0)) rfl ?_
 intro w1 hg1 hf1 hz1
 have hb1 := hb.still hf1
 have hoff : Off (One w.heap.size) b := ho.off (Nat.le_refl _)
 generalize hgw : w.heap.size = g at *
 have HG := qH hgw; clear hgw
 clear hb ho
 go_wp2_with fail
 refine (h0i g (c0M, 0) b n c l w1 rfl ap2 hn hnc hg1 hb1 hoff).mono ?_
 rintro e w2 ⟨rfl, hg2, hf2⟩
 obtain ⟨h1, h2⟩ := v0L l
 have hfr2 : Fr Nob w w2 := hf1.new hf2 (by rw [HG.out]; exact Nat.le_refl _)
 generalize hst : b0Z (c0M, 0) l = st at *
 have HST := qH hst; clear hst
 clear hg1 hf1 hz1 hb1 hf2
 go_wp2_with fail
 refine (p0V g st.1 st.2 31 m w2 h1 h2 hm hg2).mono ?_
 rintro e w3 ⟨v, rfl, hown, hf3⟩
 go_wp2_with fail
 go_ret
 refine ⟨v, rfl, ?_, hfr2.new hf3 (by rw [HG.out]; exact Nat.le_refl _)⟩
 have := hown.mono (base' := g) (by have := hg2.lt; omega)
 rw [← HST.out] at this
 rw [HG.out]
 exact this
end
section
open Go.RowKit Go.Mv Mvp
attribute [local irreducible] a0T b0c toB a0u a0w a0Y a0E
def PartIs (w : World) (v : Value) (l : List UInt8) : Prop := ∃ a n c, v = .slice a n c ∧ n ≤ c ∧ n ≤ 1000000 ∧ RdB w a n l ∧ Old w a
theorem PartIs.still {w w' : World} {v : Value} {l : List UInt8} (h : PartIs w v l) (hf : Fr Nob w w') : PartIs w' v l := by
 obtain ⟨a, n, c, h1, h2, h3, h4, h5⟩ := h
 exact ⟨a, n, c, h1, h2, h3, h4.still hf, h5.grow hf.size⟩
def PartsAt (w : World) (a : Option Addr) (ls : List (List UInt8)) : Prop := ∃ vs : List Value, Rd w a ls.length vs ∧ ∀ (i : Nat) (v : Value), vs[i]? = some v → ∃ l : List UInt8, ls[i]? = some l ∧ PartIs w v l
theorem PartsAt.get {w : World} {a : Option Addr} {ls : List (List UInt8)} (h : PartsAt w a ls) {j : Nat} (hj : j < ls.length) : ∃ b o v, a = some ⟨b, o, none⟩ ∧ w.cell? ⟨b, o + j, none⟩ = some v ∧ PartIs w v (ls.getD j []) := by
 obtain ⟨vs, hr, hv⟩ := h
 obtain ⟨b, o, rfl, hat⟩ := hr.at ap1
 have hl := hr.len
 obtain ⟨l, h1, h2⟩ := hv j (vs[j]'ap1) (List.getElem?_eq_getElem ap1)
 refine ⟨b, o, vs[j]'ap1, rfl, hat j _ (List.getElem?_eq_getElem ap1), ?_⟩
 rwa [List.getD_eq_getElem?_getD, h1]
theorem PartsAt.still {w w' : World} {a : Option Addr} {ls : List (List UInt8)} (h : PartsAt w a ls) (hf : Fr Nob w w') : PartsAt w' a ls := by
 obtain ⟨vs, hr, hv⟩ := h
 refine ⟨vs, hr.still hf, fun i v hi => ?_⟩
 obtain ⟨l, h1, h2⟩ := hv i v hi
 exact ⟨l, h1, h2.still hf⟩
def l0W (s : List UInt8) (ls : List (List UInt8)) : List UInt8 := a0x (s :: ls)
def c0n (s : List UInt8) (ls : List (List UInt8)) : List UInt8 := a0E (l0W s ls) 6 32
theorem z25 : ((c0M, 0) : List UInt64 × Nat).1.length = 25 := rfl
attribute [local irreducible] b0Z a0S a0x abs c0M
theorem p0W (s : ByteArray) (a : Option Addr) (c : Nat) (ls : List (List UInt8)) (w : World) (hs : s.size ≤ 1000000) (hm : ls.length ≤ 1000000) (hb : PartsAt w a ls) :
  Calls Tryz.prog 218 #[.string s, .slice a ls.length c] w fun r w' => ∃ v, r = .returned v ∧ Own w' w.heap.size 5 1 v 32 (bs (c0n s.data.toList ls)) ∧ Fr Nob w w' := by
 go_enter Tryz.func218, Tryz.ntmps218
 go_wp2_with (with_reducible refine wSk 8 ?_)
 refine c0r rfl rfl _ k0s ?_
 refine k0d rfl rfl rfl (abs (c0M, 0)) rfl ?_
 intro w1 hg1 hf1 hz1
 clear hz1
 have hst1 := z25
 have hst2 : ((c0M, 0) : List UInt64 × Nat).2 < 136 := Nat.zero_lt_succ _
 obtain ⟨st0, hst0⟩ : ∃ st0 : List UInt64 × Nat, st0 = (c0M, 0) := ⟨_, rfl⟩
 rw [← hst0] at hg1 hst1 hst2
 have HST0 := qH hst0; clear hst0
 generalize hgw : w.heap.size = g at *
 have HG := qH hgw; clear hgw
 go_wp2_with (with_reducible refine wSk 12 ?_)
 refine e0v rfl rfl Tryz.underlying9 Tryz.underlying23 Tryz.underlying5 rfl ap9 w1.heap.size (Nat.le_refl _) ?_
 intro cap w2 hown2 hf2 hz2
 have hg2 := hg1.keep hf2 id
 have hfr2 := hf1.then hf2
 have hgl := hg1.lt
 obtain ⟨a2, c2, hv2, hc2, hrd2, -⟩ := hown2.form
 cases hv2
 rw [Nat.mul_one] at hrd2
 go_wp2_with fail
 have hoff0 : Off (One g) (some (⟨w1.heap.size, 0, none⟩ : Addr)) := fun x hx (e : x.block = g) => by
  cases hx
  exact absurd e (by show ¬ (w1.heap.size = g); omega)
 have hcall := k0r g st0 (some ⟨w1.heap.size, 0, none⟩) s.size cap s.data.toList w2 hst1 hst2 hs hc2 hg2 hrd2 hoff0
 refine hcall.mono ?_
 rintro e w3 ⟨rfl, hg3, hf3⟩
 have hfr3 : Fr Nob w w3 := hfr2.new hf3 (by rw [HG.out]; exact Nat.le_refl _)
 clear hg1 hf1 hown2 hf2 hz2 hg2 hfr2 hrd2 hf3 hgl
 go_wp2_with fail
 go_loopw [16] (fun i wr => ∃ j : Nat, j ≤ ls.length ∧ i = .int .i64 (j : Int) ∧ Has wr g (abs (b0Z st0 (a0x (s.data.toList :: ls.take j)))) 325 ∧ Fr Nob w wr) (fun i _ => (ls.length - intOf i).toNat)
 case atStart => exact ⟨0, by omega, rfl, by rw [List.take_zero, h0j]; exact hg3, hfr3⟩
 case round =>
  obtain ⟨j, hj, rfl, hgj, hfj⟩ := hrel
  clear hg3 hfr3
  by_cases hlt : j < ls.length
  ·have hltI : (j : Int) < (ls.length : Int) := by omega
   obtain ⟨b, o, v, rfl, hc, hp⟩ := (hb.still hfj).get hlt
   obtain ⟨b', o', v', hv', hc', hp'⟩ := hb.get hlt
   simp only [Option.some.injEq, Addr.mk.injEq] at hv'
   obtain ⟨rfl, rfl, -⟩ := hv'
   have hvv : v = v' := by
    have := hfj.cell id hc'
    rw [hc] at this; simpa using this
   subst hvv
   obtain ⟨ap, np, cp, rfl, hp1, hp2, hp3, hp4⟩ := hp'
   have hr3 := hp3.still hfj
   clear hp
   have hoff : Off (One g) ap := hp4.off (by rw [HG.out]; exact Nat.le_refl _)
   go_wp2_with fail
   have hSj : (b0Z st0 (a0x (s.data.toList :: ls.take j))).1.length = 25 := by rw [g0A, hst1]
   have hkj := j0g (a0x (s.data.toList :: ls.take j)) st0 hst2
   refine (k0r g (b0Z st0 (a0x (s.data.toList :: ls.take j))) ap np cp (ls.getD j []) wr hSj hkj hp2 hp1 hgj hr3 hoff).mono ?_
   rintro e w4 ⟨rfl, hg4, hf4⟩
   have hfr4 : Fr Nob w w4 := hfj.new hf4 (by rw [HG.out]; exact Nat.le_refl _)
   rw [← e0R] at hg4
   have hfl : a0x (s.data.toList :: ls.take j) ++ a0S (ls.getD j []) = a0x (s.data.toList :: ls.take (j + 1)) := by
    rw [List.take_succ_eq_append_getElem hlt, ← List.cons_append, i0f, h0j, List.getD_eq_getElem?_getD, List.getElem?_eq_getElem hlt]; rfl
   rw [hfl] at hg4
   clear hSj hkj hr3 hgj hfj hf4 hfl
   go_wp2_with fail
   go_roundw
   case rel => exact ⟨j + 1, by omega, by go_num, hg4, hfr4⟩
   case measure => simp [intOf]; omega
  ·have hge : ¬ ((j : Int) < (ls.length : Int)) := by omega
   have hjn : j = ls.length := by omega
   have hSj : (b0Z st0 (a0x (s.data.toList :: ls.take j))).1.length = 25 := by rw [g0A, hst1]
   have hkj := j0g (a0x (s.data.toList :: ls.take j)) st0 hst2
   have hft : a0x (s.data.toList :: ls.take j) = l0W s.data.toList ls := by rw [hjn, List.take_length]; rfl
   rw [hft] at hgj hSj hkj
   generalize hst : b0Z st0 (l0W s.data.toList ls) = st at *
   have HST := qH hst; clear hst
   have HJN := qH hjn; clear hjn
   clear hft
   go_wp2_with fail
   refine (p0V g st.1 st.2 6 32 wr hSj hkj ap1 hgj).mono ?_
   rintro e w4 ⟨v, rfl, hown, hf4⟩
   go_wp2_with fail
   go_ret
   refine ⟨v, rfl, ?_, hfj.new hf4 (by rw [HG.out]; exact Nat.le_refl _)⟩
   have := hown.mono (base' := g) (by have := hgj.lt; omega)
   rw [HG.out]
   unfold c0n a0E
   rw [← HST0.out, HST.out]
   exact this
theorem v0M (s : ByteArray) (a : Option Addr) (c : Nat) (ls : List (List UInt8)) (w : World) (hs : s.size ≤ 1000000) (hm : ls.length ≤ 1000000) (hb : PartsAt w a ls) :
  Calls Tryz.prog 248 #[.string s, .slice a ls.length c] w fun r w' => ∃ v, r = .returned v ∧ Own w' w.heap.size 5 1 v 32 (bs (c0n s.data.toList ls)) ∧ Fr Nob w w' := by
 go_enter Tryz.func248, Tryz.ntmps248
 go_wp2_with fail
 refine (p0W s a c ls w hs hm hb).mono ?_
 rintro e w4 ⟨v, rfl, hown, hf4⟩
 go_wp2_with fail
 go_ret
 exact ⟨v, rfl, hown, hf4⟩
end
section
open Go.RowKit Go.Mv Mvp
end
section
open Go.RowKit Go.Mv Mvp
attribute [local irreducible] a0T b0c toB a0u a0w a0Y a0E
theorem d0Z {w : World} {base : Nat} {T : TypeId} {v : Value} {n : Nat} {l : List UInt8} (h : Own w base T 1 v n (bs l)) : ∃ a c, v = .slice a n c ∧ RdB w a n l := by
 obtain ⟨a, c, hv, _, hr, _⟩ := h.form
 rw [Nat.mul_one] at hr
 exact ⟨a, c, hv, hr⟩
end
end Go.Proofs.YtpfimiajoifjaaaGreat
namespace Go.Mv
open Go.RowKit Go.ChangeShapes Go.WideShapes
section
variable {H : Type} {enc : TypeId × Value → H} {P : Program} {w : World} {base : Nat} {held : Bool} {spare : Nat → Bool}
theorem x0T {n : Int} (h : (Lit.int .i64 n).wf = true) : -9223372036854775808 ≤ n ∧ n ≤ 9223372036854775807 := by
 simpa [Lit.wf, IntKind.min, IntKind.max, IntKind.signed, IntKind.bits] using h
end
end Go.Mv
namespace Go.Proofs.YtpfimiajoifjaaaGreat
open Go.RowKit Go.Mv Mvp
attribute [local irreducible] a0T b0c toB a0u a0w a0Y a0E b0Z a0S a0x
end Go.Proofs.YtpfimiajoifjaaaGreat
