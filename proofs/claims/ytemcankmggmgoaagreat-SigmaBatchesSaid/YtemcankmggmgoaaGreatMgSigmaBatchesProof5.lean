/- ; ; ; ; ; ; ; ; ; ; ; ; ; ; ; ; . -/
import Derived.Test.YtemcankmggmgoaaGreatMgSigmaBatchesProof4
import Derived.Test.YtemcankmggmgoaaGreatMgSigmaBatchesProof2
set_option maxHeartbeats 16000000
set_option maxRecDepth 1000000
open Go.Proofs.Tryz

namespace Go.Mv
open Go.RowKit
abbrev Blk := Nat × List Value × TypeId
def upd (x : Nat → Value) (i : Nat) (v : Value) : Nat → Value := fun k => if k = i then v else x k
theorem pK (x : Nat → Value) (i : Nat) (v : Value) : upd x i v i = v := if_pos rfl
theorem jM (x : Nat → Value) (i k : Nat) (v : Value) (h : (k == i) = false) : upd x i v k = x k := if_neg (by simpa using h)
theorem St.perm {S : Nat → Prop} {w0 w : World} {bl bl' : List Blk} (h : St S w0 w bl) (p : bl'.Perm bl) : St S w0 w bl' :=
 ⟨h.fr, fun x hx => h.own x (p.subset hx), fun x hx => h.has x (p.subset hx), (List.Perm.pairwise_iff (fun {_ _} e => Ne.symm e) p).2 h.ne⟩
inductive LS where
 | w (i : Nat)
 | t (i : Nat)
 | c (i : Nat)
 | o (i : Nat)
 | j (i : Nat)
def c0X : List LS → Nat
 | [] => 0
 | .j _ :: s => c0X s
 | _ :: s => c0X s + 1
section
variable {P : Program} {ops : Array Oper} {md : Region.Mode} {Q : Exit → Act → World → Prop} {Sx : World → Prop} {m : Nat} {S : Nat → Prop} {w0 : World} {tl : Pl}
def Mk (P : Program) (e : Sem Next) (v : Nat → Value) (L : List Value) (T : TypeId) : Prop :=
 ∀ w, ∃ g w', e.run P w = .ok (.value (v g)) w' ∧ Fr Nob w w' ∧ w.heap.size ≤ g ∧ Has w' g L T
abbrev Flt := Nat × (Nat → Value) × List Value × TypeId
def Lad (P : Program) (ops : Array Oper) (Q : Exit → Act → World → Prop) (Sx : World → Prop) (S : Nat → Prop) (w0 : World) (tl : Pl) : List LS → List Flt → List Blk → (World → Prop) → ((Nat → Value) → Act) → Prop
 | [], _, BL, R, A => ∀ x w, St S w0 w BL → R w → dQ P ops Q Sx tl (A x) w
 | .w i :: s, Γ, BL, R, A => ∃ o v, ops[i]? = some o ∧ (∀ x, YieldsIf P ops (fun _ => True) o v (A x)) ∧ Lad P ops Q Sx S w0 tl s Γ BL R (fun x => (A x).put o.dst v)
 | .t i :: s, Γ, BL, R, A => ∃ o v, ops[i]? = some o ∧ (∀ x, YieldsIf P ops Sx o v (A x)) ∧ Lad P ops Q Sx S w0 tl s Γ BL R (fun x => (A x).put o.dst v)
 | .c i :: s, Γ, BL, R, A => ∃ o, ops[i]? = some o ∧ o.guard = none ∧ ∃ (X : Type) (v : X → Value) (R' : X → World → Prop), (∀ y w w', R' y w → Fr Nob w w' → R' y w') ∧
   (∀ x w, St S w0 w BL → R w → o.wp P (A x) w (fun a' w' => ∃ y, a' = (A x).put o.dst (v y) ∧ Fr Nob w w' ∧ R' y w') Q) ∧ ∀ y, Lad P ops Q Sx S w0 tl s Γ BL (fun w => R w ∧ R' y w) (fun x => (A x).put o.dst (v y))
 | .o i :: s, Γ, BL, R, A => ∃ o e v L T, ops[i]? = some o ∧ o.guard = none ∧ (∀ x, execOp (A x).eval o = e) ∧ Mk P e v L T ∧ Lad P ops Q Sx S w0 tl s ((i, v, L, T) :: Γ) BL R (fun x => (A x).put o.dst (x i))
 | .j i :: s, Γ, BL, R, A => ∃ v L T, (i, v, L, T) ∈ Γ ∧ ∀ g, Lad P ops Q Sx S w0 tl s (Γ.filter (·.1 != i)) (BL ++ [(g, L, T)]) R (fun x => A (upd x i (v g)))
def l0h : List Nat → List (List Nat)
 | [] => [[]]
 | a :: l => l0h l ++ (l0h l).map (a :: ·)
theorem gU (p : Nat → Bool) : ∀ l : List Nat, l.filter p ∈ l0h l
 | [] => by simp [l0h]
 | a :: l => by
  rw [l0h, List.filter_cons]
  split
  ·exact List.mem_append_right _ (List.mem_map.2 ⟨_, gU p l, rfl⟩)
  ·exact List.mem_append_left _ (gU p l)
def lK (listed : Array Bool) (B : List Nat) : Array Bool := listed.mapIdx fun k b => b || B.contains k
theorem dP (listed : Array Bool) (B : List Nat) : (lK listed B).size = listed.size := by simp [lK]
theorem fW (listed : Array Bool) (B : List Nat) (k : Nat) (hk : k < listed.size) (d : Bool) : (lK listed B).getD k d = (listed.getD k d || B.contains k) := by
 simp [lK, hk]
theorem mS {a b : Array Bool} (hs : a.size = b.size) (h : ∀ k, k < a.size → a.getD k true = b.getD k true) : a = b := by
 refine Array.ext hs fun k h1 h2 => ?_
 have := h k h1
 simpa [h1, h2] using this
theorem zP (listed : Array Bool) (B : List Nat) (i : Nat) : (lK listed B).setIfInBounds i true = lK (listed.setIfInBounds i true) B := by
 refine mS (by simp [dP]) fun k hk => ?_
 have hk' : k < listed.size := by simpa [dP] using hk
 rw [fW _ _ _ (by simpa using hk')]
 by_cases e : i = k
 ·subst e; rw [eE (by rw [dP]; exact hk'), eE hk']; rfl
 ·rw [getD_set_ne true e, getD_set_ne true e, fW _ _ _ hk']
theorem i0r (listed : Array Bool) (B : List Nat) (i : Nat) : (lK listed B).setIfInBounds i true = lK listed (B ++ [i]) := by
 refine mS (by simp [dP]) fun k hk => ?_
 have hk' : k < listed.size := by simpa [dP] using hk
 rw [fW _ _ _ hk']
 by_cases e : i = k
 ·subst e; rw [eE (by rw [dP]; exact hk')]; simp
 ·rw [getD_set_ne true e, fW _ _ _ hk']
  have : (k == i) = false := by simpa using fun h => e h.symm
  rw [List.contains_append, List.contains_cons, this]
  simp
theorem i0s (listed : Array Bool) (B C : List Nat) (h : ∀ k, B.contains k = C.contains k) : lK listed B = lK listed C := by
 unfold lK
 congr 1
 funext k b
 rw [h k]
def cOk (md : Region.Mode) (ops : Array Oper) (i : Nat) (opn : List Nat) (listed : Array Bool) (B : List Nat) : Bool :=
 (Region.ready md ops (lK listed B)).contains i && (Region.ready md ops (lK listed B)).all fun k => k == i || (opn.contains k && !B.contains k)
def g0f (ops : Array Oper) (i : Nat) (opn : List Nat) : Bool := opn.all fun k => match ops[i]?, ops[k]? with | some a, some b => a.apart ops b | _, _ => false
def m0W (ops : Array Oper) (i : Nat) : Bool := match ops[i]? with | some o => (match o.dst with | some d => !(o.looksAt ops).contains d | none => true) | none => false
def pL (md : Region.Mode) (ops : Array Oper) (m : Nat) (tl : Pl) : List LS → List Nat → Array Bool → Bool
 | [], opn, listed => opn.isEmpty && eO md ops m tl listed
 | .w i :: s, opn, listed => decide (i ≠ m) && g0f ops i opn && ((l0h opn).all fun B => (Region.ready md ops (lK listed B)).contains i && Region.free md ops (lK listed B) i) && pL md ops m tl s opn (listed.setIfInBounds i true)
 | .t i :: s, opn, listed => decide (i ≠ m) && decide (listed.getD m true = false) && g0f ops i opn && k0Y md ops m ops.size i && ((l0h opn).all fun B => (Region.ready md ops (lK listed B)).contains i && Region.free md ops (lK listed B) i) && pL md ops m tl s opn (listed.setIfInBounds i true)
 | .c i :: s, opn, listed => decide (i ≠ m) && decide (listed.getD m true = false) && !opn.contains i && g0f ops i opn && ((l0h opn).all fun B => cOk md ops i opn listed B) && pL md ops m tl s opn (listed.setIfInBounds i true)
 | .o i :: s, opn, listed => decide (i ≠ m) && decide (listed.getD m true = false) && !opn.contains i && g0f ops i opn && m0W ops i && pL md ops m tl s (i :: opn) listed
 | .j i :: s, opn, listed => opn.contains i && decide (listed.getD m true = false) && !opn.contains m && ((l0h (opn.filter (· != i))).all fun B => cOk md ops i opn listed B) && pL md ops m tl s (opn.filter (· != i)) (listed.setIfInBounds i true)
theorem zQ (a : Act) (d e : Option Tmp) (u v : Value) (h : e ≠ d ∨ e = none) : (a.put e u).put d v = (a.put d v).put e u := by
 cases d <;> cases e <;> simp only [Act.put]
 ·rename_i x y
  have hn : y ≠ x := fun k => by subst k; rcases h with h | h; exact h rfl; cases h
  rw [Array.setIfInBounds_comm _ _ hn]
theorem b0B (a : Act) (d : Option Tmp) (u v : Value) : (a.put d u).put d v = a.put d v := by
 cases d <;> simp [Act.put]
theorem e0A (a : Act) (d : Option Tmp) : ∃ u, a.put d u = a := by
 cases d with
 | none => exact ⟨undef, rfl⟩
 | some d =>
  refine ⟨a.tmps.getD d undef, ?_⟩
  simp only [Act.put]
  have : a.tmps.setIfInBounds d (a.tmps.getD d undef) = a.tmps := by
   refine Array.ext Ae fun k h1 h2 => ?_
   rw [Array.getElem_setIfInBounds (by simpa using h1)]
   split
   ·rename_i e; subst e; simp [h2]
   ·rfl
  rw [this]
theorem l0i (x : Nat → Value) (i : Nat) : upd x i (x i) = x := by
 funext k
 unfold upd
 split
 ·rename_i e; rw [e]
 ·rfl
theorem e0B {i : Nat} {opn : List Nat} {o : Oper} (h : g0f ops i opn = true) (ho : ops[i]? = some o) {k : Nat} {ok : Oper} (hk : k ∈ opn) (hok : ops[k]? = some ok) : o.apart ops ok = true := by
 have := List.all_eq_true.1 h k hk
 simp only [ho, hok] at this
 exact this
theorem m0X {o ok : Oper} (h : o.apart ops ok = true) : o.dst ≠ ok.dst ∨ o.dst = none := by
 obtain ⟨-, h2, -⟩ := Oper.apart_spec h
 cases hd : o.dst with
 | none => exact .inr rfl
 | some d => exact .inl fun e => h2 d hd e.symm
theorem s0C {o : Oper} {e : Sem Next} {v : Nat → Value} {L : List Value} {T : TypeId} (ha : Mk P e v L T) {BL : List Blk} {a : Act} {w : World} {K : Act → World → Prop} (he : execOp a.eval o = e) (hst : St S w0 w BL)
  (h : ∀ g w', St S w0 w' (BL ++ [(g, L, T)]) → Fr Nob w w' → K (a.put o.dst (v g)) w') : o.wp P a w K Q := by
 obtain ⟨g, w', hr, hf, hle, hg⟩ := ha w
 unfold Oper.wp
 rw [he, hr]
 exact h g w' (hst.new hf hg hle) hf
structure Fls (P : Program) (ops : Array Oper) (Γ : List Flt) (A : (Nat → Value) → Act) : Prop where
 nd : (Γ.map Prod.fst).Nodup
 ok : ∀ q ∈ Γ, ∃ o e, ops[q.1]? = some o ∧ o.guard = none ∧ (∀ x, execOp (A x).eval o = e) ∧ Mk P e q.2.1 q.2.2.1 q.2.2.2
 put : ∀ k ∈ Γ.map Prod.fst, ∀ o, ops[k]? = some o → ∀ x v, (A x).put o.dst v = A (upd x k v)
 not : ∀ k, k ∉ Γ.map Prod.fst → ∀ x v, A (upd x k v) = A x
theorem Fls.step {Γ : List Flt} {A : (Nat → Value) → Act} (h : Fls P ops Γ A) (hsel : Region.noSelect ops = true) {i : Nat} {o : Oper} (ho : ops[i]? = some o) (hd : g0f ops i (Γ.map Prod.fst) = true) (v : Value) : Fls P ops Γ (fun x => (A x).put o.dst v) := by
 refine ⟨h.nd, fun q hq => ?_, fun k hk ok hok x u => ?_, fun k hk x u => by rw [h.not k hk]⟩
 ·obtain ⟨o2, e, h1, h2, h3, h4⟩ := h.ok q hq
  have hap := e0B hd ho (List.mem_map_of_mem hq) h1
  refine ⟨o2, e, h1, h2, fun x => ?_, h4⟩
  rw [execOp_put (ops := ops) o2 (fun cs b => Region.noSelect_spec hsel q.1 o2 cs b h1) (A x) o.dst v (Oper.apart_spec hap).1]
  exact h3 x
 ·rw [zQ _ _ _ _ _ (m0X (e0B hd ho hk hok)), h.put k hk ok hok]
theorem g0g {Γ : List Flt} (h : (Γ.map Prod.fst).Nodup) {a b : Flt} (ha : a ∈ Γ) (hb : b ∈ Γ) (he : a.1 = b.1) : a = b := by
 induction Γ with
 | nil => cases ha
 | cons c l ih =>
  rw [List.map_cons, List.nodup_cons] at h
  rcases List.mem_cons.1 ha with ha1 | ha1
  ·rcases List.mem_cons.1 hb with hb1 | hb1
   ·rw [ha1, hb1]
   ·exact absurd (by rw [← ha1, he]; exact List.mem_map_of_mem hb1) h.1
  ·rcases List.mem_cons.1 hb with hb1 | hb1
   ·exact absurd (by rw [← hb1, ← he]; exact List.mem_map_of_mem ha1) h.1
   ·exact ih h.2 ha1 hb1
theorem qQ (Γ : List Flt) (i : Nat) : (Γ.filter (·.1 != i)).map Prod.fst = (Γ.map Prod.fst).filter (· != i) := by
 induction Γ with
 | nil => rfl
 | cons a l ih =>
  simp only [List.filter_cons, List.map_cons]
  split <;> simp [ih]
theorem b0C {l : List Nat} (h : l.Nodup) (p : Nat → Bool) : (l.filter p).Nodup := List.Pairwise.filter p h
theorem qR {l : List Nat} (h : l.Nodup) {i : Nat} (hi : i ∈ l) : (l.filter (· != i)).length + 1 = l.length := by
 induction l with
 | nil => cases hi
 | cons a l ih =>
  rw [List.nodup_cons] at h
  rw [List.filter_cons]
  by_cases e : a = i
  ·subst e
   rw [if_neg Ae]
   have : l.filter (· != a) = l := List.filter_eq_self.2 fun b hb => by
    simp only [bne_iff_ne, ne_eq]
    exact fun e => h.1 (e ▸ hb)
   rw [this]; rfl
  ·rw [if_pos (by simpa using e)]
   rcases List.mem_cons.1 hi with rfl | hi
   ·exact absurd rfl e
   ·simp [← ih h.2 hi]
theorem _root_.Bu {p : Prop} (h : p := by simp at hN; omega) : p := h
theorem xH (hsel : Region.noSelect ops = true) (hm : m < ops.size) (hQ : ∀ c (d : Option Tmp) v a w, Q (.panic c) (Act.put a d v) w → Q (.panic c) a w) :
  ∀ (N f : Nat) (s : List LS) (Γ : List Flt) (listed : Array Bool) (D : List (Nat × Value × Blk)) (x : Nat → Value) (w : World) (BL : List Blk) (R : World → Prop) (A : (Nat → Value) → Act),
   f + s.length ≤ N → f + D.length = c0X s + Γ.length + tl.len → listed.size = ops.size → m ∉ Γ.map Prod.fst → (D.map Prod.fst).Nodup → Cl md ops (lK listed (D.map Prod.fst)) →
   pL md ops m tl s (Γ.map Prod.fst) listed = true → (∀ d ∈ D, x d.1 = d.2.1) → Fls P ops Γ A → (∀ d ∈ D, ∃ v, (d.1, v, d.2.2.2.1, d.2.2.2.2) ∈ Γ ∧ d.2.1 = v d.2.2.1) →
   St S w0 w (BL ++ D.map fun d => d.2.2) → R w → (∀ w w', R w → Fr Nob w w' → R w') → (∀ w', St S w0 w' BL → Sx w') →
   Lad P ops Q Sx S w0 tl s Γ BL R A → wpP P md ops Q Sx m f (lK listed (D.map Prod.fst)) (A x) w := by
 intro N
 induction N with
 | zero =>
  intro f s Γ listed D x w BL R A hN hf hsz hmo hDn inv hok hx hfl hDinf hst hR hRm hSx hlad
  obtain rfl : f = 0 := by omega
  obtain rfl : s = [] := by cases s with | nil => rfl | cons _ _ => simp at hN
  simp only [pL, Bool.and_eq_true, List.isEmpty_iff, List.map_eq_nil_iff] at hok
  obtain ⟨rfl, hpl⟩ := hok
  obtain rfl : D = [] := by cases D with | nil => rfl | cons d _ => obtain ⟨_, h, _⟩ := hDinf d Ae; cases h
  have hmk : lK listed (List.map Prod.fst ([] : List (Nat × Value × Blk))) = listed := by
   refine mS (dP _ _) fun k hk => ?_
   rw [fW _ _ _ (by simpa [dP] using hk)]; simp
  rw [hmk] at inv ⊢
  have hst' : St S w0 w BL := by simpa using hst
  have hc : (0 : Nat) = tl.len := by simpa [c0X] using hf
  have := dJ (md := md) hsel hm hQ tl listed (A x) w inv hpl (fun _ => hSx w hst') (hlad x w hst' hR)
  rwa [← hc] at this
 | succ N ih =>
  intro f s Γ listed D x w BL R A hN hf hsz hmo hDn inv hok hx hfl hDinf hst hR hRm hSx hlad
  have hstB : St S w0 w BL := hst.less (List.sublist_append_left _ _)
  have hDo : ∀ d ∈ D, d.1 ∈ Γ.map Prod.fst := fun d hd => by
   obtain ⟨v, h, _⟩ := hDinf d hd
   exact List.mem_map_of_mem (f := Prod.fst) h
  have hDsub : D.map Prod.fst ⊆ Γ.map Prod.fst := fun a ha => by obtain ⟨d, hd, e⟩ := List.mem_map.1 ha; exact e ▸ hDo d hd
  have hDle : D.length ≤ Γ.length := by
   have := List.Nodup.length_le_of_subset hDn hDsub
   simpa using this
  have hml (h : listed.getD m true = false) : (lK listed (D.map Prod.fst)).getD m true = false := by
   rw [fW _ _ _ (by rw [hsz]; exact hm), h]
   simp only [Bool.false_or]
   cases hb : (D.map Prod.fst).contains m with
   | false => rfl
   | true => exact absurd (hDsub (List.contains_iff_mem.1 hb)) hmo
  have hmB : ∀ opn' : List Nat, (∀ d ∈ D, d.1 ∈ opn') → (lK listed (D.map Prod.fst)) = lK listed (opn'.filter fun k => (D.map Prod.fst).contains k) := by
   intro opn' hD'
   refine i0s _ _ _ fun k => ?_
   rw [Bool.eq_iff_iff]
   simp only [List.mem_filter, List.elem_eq_mem, decide_eq_true_eq]
   constructor
   ·intro h
    obtain ⟨d, hd, e⟩ := List.mem_map.1 h
    exact ⟨e ▸ hD' d hd, by simpa using h⟩
   ·intro h; simpa using h.2
  have float : ∀ k, f ≠ 0 → k ∈ Γ.map Prod.fst → k ∉ D.map Prod.fst → k ∈ Region.ready md ops (lK listed (D.map Prod.fst)) →
    wpOp P ops Q k (fun a' w' => ((lK listed (D.map Prod.fst)).getD m true = false → k ≠ m → Sx w') ∧ wpP P md ops Q Sx m (f - 1) ((lK listed (D.map Prod.fst)).setIfInBounds k true) a' w') (A x) w := by
   intro k hf0 hko hkD hkr
   obtain ⟨⟨k2, v, L, T⟩, hq, rfl⟩ := List.mem_map.1 hko
   obtain ⟨o, e, ho, hg, he, hmk⟩ := hfl.ok _ hq
   refine iV ho hg (s0C hmk (he x) hst fun g w' hst' hfr => ?_)
   have hstB' : St S w0 w' BL := hst'.less (by rw [List.append_assoc]; exact List.sublist_append_left _ _)
   refine ⟨fun _ _ => hSx w' hstB', ?_⟩
   rw [hfl.put k2 hko o ho]
   have e1 : (lK listed (D.map Prod.fst)).setIfInBounds k2 true = lK listed ((D ++ [(k2, v g, (g, L, T))]).map Prod.fst) := by
    rw [i0r]; simp
   have inv' := inv.set hkr
   rw [e1] at inv' ⊢
   refine ih (f - 1) s Γ listed (D ++ [(k2, v g, (g, L, T))]) (upd x k2 (v g)) w' BL R A Ab Ao hsz hmo ?_ inv' hok ?_ hfl ?_ ?_ (hRm w w' hR hfr) hRm hSx hlad
   ·rw [List.map_append, List.nodup_append]
    refine ⟨hDn, by simp, fun a ha b hb => ?_⟩
    simp only [List.map_cons, List.map_nil, List.mem_singleton] at hb
    subst hb
    exact fun h => hkD (h ▸ ha)
   ·intro d hd
    rcases List.mem_append.1 hd with h | h
    ·have hne : d.1 ≠ k2 := fun h2 => hkD (h2 ▸ List.mem_map_of_mem h)
     rw [jM _ _ _ _ (by simpa using hne)]
     exact hx d h
    ·simp only [List.mem_singleton] at h; subst h; exact pK _ _ _
   ·intro d hd
    rcases List.mem_append.1 hd with h | h
    ·exact hDinf d h
    ·simp only [List.mem_singleton] at h; subst h; exact ⟨v, hq, rfl⟩
   ·simpa using hst'
  cases s with
  | nil =>
   simp only [pL, Bool.and_eq_true, List.isEmpty_iff, List.map_eq_nil_iff] at hok
   obtain ⟨rfl, hpl⟩ := hok
   obtain rfl : D = [] := by cases D with | nil => rfl | cons d _ => simp at hDle
   have hmk : lK listed (List.map Prod.fst ([] : List (Nat × Value × Blk))) = listed := by
    refine mS (dP _ _) fun k hk => ?_
    rw [fW _ _ _ (by simpa [dP] using hk)]; simp
   rw [hmk] at inv ⊢
   have hc : f = tl.len := by simpa [c0X] using hf
   have := dJ (md := md) hsel hm hQ tl listed (A x) w inv hpl (fun _ => hSx w hstB) (hlad x w hstB hR)
   rwa [← hc] at this
  | cons q s =>
   cases q with
   | w i =>
    obtain ⟨o, v, ho, hy, hK⟩ := hlad
    simp only [pL, Bool.and_eq_true, decide_eq_true_eq] at hok
    obtain ⟨⟨⟨him, hdn⟩, hall⟩, hok'⟩ := hok
    have hB := List.all_eq_true.1 hall _ (gU (fun k => (D.map Prod.fst).contains k) (Γ.map Prod.fst))
    rw [← hmB _ hDo, Bool.and_eq_true] at hB
    have hr' : i ∈ Region.ready md ops (lK listed (D.map Prod.fst)) := by simpa using hB.1
    obtain ⟨f', rfl⟩ : ∃ f', f = f' + 1 := ⟨f - 1, by simp [c0X] at hf; omega⟩
    refine pH ho (Region.noSelect_spec hsel) (fun c a w => hQ c o.dst v a w) him hm f' _ (A x) w inv (Region.free_spec ho hB.2) hr' (hy x) (fun _ => hSx w hstB) ?_
    have inv' := inv.set hr'
    rw [zP] at inv' ⊢
    exact ih f' s Γ (listed.setIfInBounds i true) D x w BL R (fun x => (A x).put o.dst v) Bu (by simp [c0X] at hf; omega) (by simpa using hsz) hmo hDn inv' hok' hx (hfl.step hsel ho hdn v) hDinf hst hR hRm hSx hK
   | t i =>
    obtain ⟨o, v, ho, hy, hK⟩ := hlad
    simp only [pL, Bool.and_eq_true, decide_eq_true_eq] at hok
    obtain ⟨⟨⟨⟨⟨him, hlm⟩, hdn⟩, han⟩, hall⟩, hok'⟩ := hok
    have hB := List.all_eq_true.1 hall _ (gU (fun k => (D.map Prod.fst).contains k) (Γ.map Prod.fst))
    rw [← hmB _ hDo, Bool.and_eq_true] at hB
    have hr' : i ∈ Region.ready md ops (lK listed (D.map Prod.fst)) := by simpa using hB.1
    obtain ⟨f', rfl⟩ : ∃ f', f = f' + 1 := ⟨f - 1, by simp [c0X] at hf; omega⟩
    refine uG ho (Region.noSelect_spec hsel) (fun c a w => hQ c o.dst v a w) him han f' _ (A x) w inv (hml hlm) (Region.free_spec ho hB.2) hr' (hy x) (hSx w hstB) ?_
    have inv' := inv.set hr'
    rw [zP] at inv' ⊢
    exact ih f' s Γ (listed.setIfInBounds i true) D x w BL R (fun x => (A x).put o.dst v) Bu (by simp [c0X] at hf; omega) (by simpa using hsz) hmo hDn inv' hok' hx (hfl.step hsel ho hdn v) hDinf hst hR hRm hSx hK
   | c i =>
    obtain ⟨o, ho, hg, X, v, R', hmono, hc, hK⟩ := hlad
    simp only [pL, Bool.and_eq_true, decide_eq_true_eq, Bool.not_eq_true'] at hok
    obtain ⟨⟨⟨⟨⟨him, hlm⟩, hio⟩, hdn⟩, hall⟩, hok'⟩ := hok
    have hB := List.all_eq_true.1 hall _ (gU (fun k => (D.map Prod.fst).contains k) (Γ.map Prod.fst))
    unfold cOk at hB
    rw [← hmB _ hDo, Bool.and_eq_true] at hB
    have hr' : i ∈ Region.ready md ops (lK listed (D.map Prod.fst)) := by simpa using hB.1
    obtain ⟨f', rfl⟩ : ∃ f', f = f' + 1 := ⟨f - 1, by simp [c0X] at hf; omega⟩
    refine ⟨fun h0 => (by rw [h0] at hr'; cases hr'), fun j hj => ?_⟩
    have hcase := List.all_eq_true.1 hB.2 j hj
    simp only [Bool.or_eq_true, beq_iff_eq, Bool.and_eq_true, Bool.not_eq_true'] at hcase
    rcases hcase with rfl | ⟨h1, h2⟩
    ·refine iV ho hg (Oper.wp_mono (fun a' w' h' => ?_) (hc x w hstB hR))
     obtain ⟨y, rfl, hfr, hRy⟩ := h'
     refine ⟨fun _ _ => hSx w' (hstB.keep hfr), ?_⟩
     have inv' := inv.set hr'
     rw [zP] at inv' ⊢
     exact ih f' s Γ (listed.setIfInBounds j true) D x w' BL (fun w => R w ∧ R' y w) (fun x => (A x).put o.dst (v y)) Bu (by simp [c0X] at hf; omega) (by simpa using hsz) hmo hDn inv' hok' hx (hfl.step hsel ho hdn (v y)) hDinf (hst.keep hfr) ⟨hRm w w' hR hfr, hRy⟩ (fun a b h k => ⟨hRm a b h.1 k, hmono y a b h.2 k⟩) hSx (hK y)
    ·have h3 : j ∉ D.map Prod.fst := by
      intro h4
      have : ((Γ.map Prod.fst).filter fun k => (D.map Prod.fst).contains k).contains j = true := by
       simp only [List.contains_iff_mem, List.mem_filter]
       exact ⟨by simpa using h1, by simpa using h4⟩
      rw [this] at h2; cases h2
     exact float j Ab (by simpa using h1) h3 hj
   | o i =>
    obtain ⟨o, e, v, L, T, ho, hg, he, hmk, hK⟩ := hlad
    simp only [pL, Bool.and_eq_true, decide_eq_true_eq, Bool.not_eq_true'] at hok
    obtain ⟨⟨⟨⟨⟨him, hlm⟩, hio⟩, hdn⟩, hself⟩, hok'⟩ := hok
    have hio' : i ∉ Γ.map Prod.fst := by simpa using hio
    obtain ⟨u, hu⟩ := e0A (A x) o.dst
    have hAx : A x = (A (upd x i u)).put o.dst (upd x i u i) := by rw [pK, hfl.not i hio', hu]
    rw [hAx]
    have hs0 : ∀ d, o.dst = some d → d ∉ o.looksAt ops := by
     intro d hd
     unfold m0W at hself
     simp only [ho, hd] at hself
     simpa using hself
    refine ih f s ((i, v, L, T) :: Γ) listed D (upd x i u) w BL R (fun x => (A x).put o.dst (x i)) Bu (by simp [c0X] at hf ⊢; omega) hsz ?_ hDn inv hok' ?_ ⟨?_, ?_, ?_, ?_⟩ (fun d hd => by obtain ⟨v, h1, h2⟩ := hDinf d hd; exact ⟨v, List.mem_cons_of_mem _ h1, h2⟩) hst hR hRm hSx hK
    ·simp only [List.map_cons, List.mem_cons, not_or]; exact ⟨fun h => him h.symm, hmo⟩
    ·intro d hd
     have hne : d.1 ≠ i := fun h => hio' (h ▸ hDo d hd)
     rw [jM _ _ _ _ (by simpa using hne)]
     exact hx d hd
    ·rw [List.map_cons, List.nodup_cons]; exact ⟨hio', hfl.nd⟩
    ·intro q hq
     rcases List.mem_cons.1 hq with rfl | hq
     ·refine ⟨o, e, ho, hg, fun x => ?_, hmk⟩
      show execOp ((A x).put o.dst (x i)).eval o = e
      rw [execOp_put (ops := ops) o (fun cs b => Region.noSelect_spec hsel i o cs b ho) _ _ _ hs0, he]
     ·obtain ⟨o2, e2, h1, h2, h3, h4⟩ := hfl.ok q hq
      have hap := e0B hdn ho (List.mem_map_of_mem hq) h1
      refine ⟨o2, e2, h1, h2, fun x => ?_, h4⟩
      show execOp ((A x).put o.dst (x i)).eval o2 = e2
      rw [execOp_put (ops := ops) o2 (fun cs b => Region.noSelect_spec hsel q.1 o2 cs b h1) _ _ _ (Oper.apart_spec hap).1, h3]
    ·intro k hk ok hok x v
     show ((A x).put o.dst (x i)).put ok.dst v = (A (upd x k v)).put o.dst (upd x k v i)
     rw [List.map_cons] at hk
     rcases List.mem_cons.1 hk with rfl | hk
     ·have : ok = o := Option.some.inj (hok.symm.trans ho)
      subst this
      rw [b0B, pK, hfl.not _ hio']
     ·have hne : i ≠ k := fun h => hio' (h ▸ hk)
      rw [zQ _ _ _ _ _ (m0X (e0B hdn ho hk hok)), hfl.put k hk ok hok, jM _ _ _ _ (by simpa using hne)]
    ·intro k hk x v
     show (A (upd x k v)).put o.dst (upd x k v i) = (A x).put o.dst (x i)
     simp only [List.map_cons, List.mem_cons, not_or] at hk
     rw [hfl.not k hk.2, jM _ _ _ _ (by simpa using fun h => hk.1 h.symm)]
   | j i =>
    obtain ⟨v, L, T, hq, hK⟩ := hlad
    simp only [pL, Bool.and_eq_true, decide_eq_true_eq, Bool.not_eq_true'] at hok
    obtain ⟨⟨⟨⟨hio, hlm⟩, hmo2⟩, hall⟩, hok'⟩ := hok
    have hio' : i ∈ Γ.map Prod.fst := by simpa using hio
    by_cases hiD : i ∈ D.map Prod.fst
    ·obtain ⟨d, hd, rfl⟩ := List.mem_map.1 hiD
     obtain ⟨v2, hq2, hv2⟩ := hDinf d hd
     obtain ⟨D1, D2, rfl⟩ := List.append_of_mem hd
     obtain ⟨k, u, g, L2, T2⟩ := d
     have hqe := g0g hfl.nd hq hq2 rfl
     simp only [Prod.mk.injEq, true_and] at hqe
     obtain ⟨rfl, rfl, rfl⟩ := hqe
     have hxd := hx _ hd
     have hDn' : k ∉ D1.map Prod.fst ∧ k ∉ D2.map Prod.fst ∧ ((D1 ++ D2).map Prod.fst).Nodup := by
      have hp : (List.map Prod.fst (D1 ++ (k, u, g, L, T) :: D2)).Perm (k :: List.map Prod.fst (D1 ++ D2)) := by
       rw [List.map_append, List.map_cons, List.map_append]
       exact List.perm_middle
      have := (hp.nodup_iff).1 hDn
      rw [List.nodup_cons] at this
      simp only [List.map_append, List.mem_append, not_or] at this ⊢
      exact ⟨this.1.1, this.1.2, this.2⟩
     have hAx : A x = A (upd x k (v g)) := by
      have h1 : x k = v g := hxd.trans hv2
      rw [← h1, l0i]
     rw [hAx]
     have hmk : lK listed ((D1 ++ (k, u, g, L, T) :: D2).map Prod.fst) = lK (listed.setIfInBounds k true) ((D1 ++ D2).map Prod.fst) := by
      refine mS (by simp [dP]) fun q hq => ?_
      have hq' : q < listed.size := by simpa [dP] using hq
      rw [fW _ _ _ hq', fW _ _ _ (by simpa using hq')]
      by_cases e : k = q
      ·subst e; rw [eE hq']; simp
      ·rw [getD_set_ne true e]
       have : (q == k) = false := by simpa using fun h => e h.symm
       simp only [List.map_append, List.map_cons, List.contains_append, List.contains_cons, this, Bool.false_or]
     rw [hmk] at inv ⊢
     have hDk : ∀ d ∈ D1 ++ D2, d ∈ D1 ++ (k, u, g, L, T) :: D2 ∧ d.1 ≠ k := by
      intro d hd'
      refine ⟨?_, fun h => ?_⟩
      ·rcases List.mem_append.1 hd' with h | h
       ·exact List.mem_append_left _ h
       ·exact List.mem_append_right _ (List.mem_cons_of_mem _ h)
      ·rcases List.mem_append.1 hd' with h2 | h2
       ·exact hDn'.1 (h ▸ List.mem_map_of_mem h2)
       ·exact hDn'.2.1 (h ▸ List.mem_map_of_mem h2)
     have hmem : ∀ q ∈ Γ, q.1 ≠ k → q ∈ Γ.filter (·.1 != k) := fun q hq hne => List.mem_filter.2 ⟨hq, by simpa using hne⟩
     refine ih f s (Γ.filter (·.1 != k)) (listed.setIfInBounds k true) (D1 ++ D2) x w (BL ++ [(g, L, T)]) R (fun x => A (upd x k (v g))) Bu ?_ (by simpa using hsz) ?_ hDn'.2.2 inv ?_ (fun d hd' => hx d (hDk d hd').1) ⟨?_, ?_, ?_, ?_⟩ ?_ ?_ hR hRm ?_ (hK g)
     ·have h1 := qR hfl.nd hio'
      rw [← qQ] at h1
      simp only [List.length_map] at h1
      simp [c0X] at hf ⊢
      omega
     ·rw [qQ]; exact fun h => hmo (List.mem_filter.1 h).1
     ·rw [qQ]; exact hok'
     ·rw [qQ]; exact b0C hfl.nd _
     ·intro q hq
      obtain ⟨o2, e2, h1, h2, h3, h4⟩ := hfl.ok q (List.mem_filter.1 hq).1
      exact ⟨o2, e2, h1, h2, fun x => h3 _, h4⟩
     ·intro q hq oq hoq x y
      show (A (upd x k _)).put oq.dst y = A (upd (upd x q y) k _)
      rw [qQ] at hq
      have hqk : q ≠ k := by simpa using (List.mem_filter.1 hq).2
      rw [hfl.put q (List.mem_filter.1 hq).1 oq hoq]
      congr 1
      funext z
      unfold upd
      by_cases h1 : z = q
      ·subst h1; rw [if_pos rfl, if_neg hqk, if_pos rfl]
      ·rw [if_neg h1]; by_cases h2 : z = k
       ·rw [if_pos h2, if_pos h2]
       ·rw [if_neg h2, if_neg h2, if_neg h1]
     ·intro q hq x y
      show A (upd (upd x q y) k _) = A (upd x k _)
      by_cases hqk : q = k
      ·subst hqk
       congr 1
       funext z
       unfold upd
       by_cases h1 : z = q
       ·rw [if_pos h1, if_pos h1]
       ·rw [if_neg h1, if_neg h1, if_neg h1]
      ·have hq' : q ∉ Γ.map Prod.fst := fun h => hq (by rw [qQ]; exact List.mem_filter.2 ⟨h, by simpa using hqk⟩)
       have : upd (upd x q y) k (v g) = upd (upd x k (v g)) q y := by
        funext z
        unfold upd
        by_cases h1 : z = k
        ·subst h1; rw [if_pos rfl, if_neg (fun h => hqk h.symm), if_pos rfl]
        ·rw [if_neg h1]; by_cases h2 : z = q
         ·rw [if_pos h2, if_pos h2]
         ·rw [if_neg h2, if_neg h2, if_neg h1]
       rw [this, hfl.not q hq']
     ·intro d hd'
      obtain ⟨v', h1, h2⟩ := hDinf d (hDk d hd').1
      exact ⟨v', hmem _ h1 (hDk d hd').2, h2⟩
     ·refine hst.perm ?_
      rw [List.append_assoc]
      refine List.Perm.append_left _ ?_
      rw [List.map_append, List.map_append, List.map_cons]
      exact (List.perm_middle (a := (g, L, T)) (l₁ := List.map (fun d => d.2.2) D1) (l₂ := List.map (fun d => d.2.2) D2)).symm
     ·intro w' h; exact hSx w' (h.less (List.sublist_append_left _ _))
    ·have hDe : ∀ d ∈ D, d.1 ∈ (Γ.map Prod.fst).filter (· != i) := fun d hd => List.mem_filter.2 ⟨hDo d hd, by
      simp only [bne_iff_ne, ne_eq]
      exact fun h => hiD (by rw [← h]; exact List.mem_map_of_mem hd)⟩
     have hB := List.all_eq_true.1 hall _ (gU (fun k => (D.map Prod.fst).contains k) ((Γ.map Prod.fst).filter (· != i)))
     unfold cOk at hB
     rw [← hmB _ hDe, Bool.and_eq_true] at hB
     have hr' : i ∈ Region.ready md ops (lK listed (D.map Prod.fst)) := by simpa using hB.1
     obtain ⟨f', rfl⟩ : ∃ f', f = f' + 1 := ⟨f - 1, by
      have h1 := List.Nodup.length_le_of_subset hDn (l₂ := (Γ.map Prod.fst).filter (· != i)) (fun a ha => by obtain ⟨d, hd, e⟩ := List.mem_map.1 ha; exact e ▸ hDe d hd)
      have h2 := qR hfl.nd hio'
      simp [c0X] at hf h1 h2; omega⟩
     refine ⟨fun h0 => (by rw [h0] at hr'; cases hr'), fun j hj => ?_⟩
     have hcase := List.all_eq_true.1 hB.2 j hj
     simp only [Bool.or_eq_true, beq_iff_eq, Bool.and_eq_true, Bool.not_eq_true'] at hcase
     have hfl2 := float j Ab
     simp only [Nat.add_sub_cancel] at hfl2
     rcases hcase with rfl | ⟨h1, h2⟩
     ·exact hfl2 hio' hiD hj
     ·have h1' : j ∈ Γ.map Prod.fst := by simpa using h1
      have h3 : j ∉ D.map Prod.fst := by
       intro h4
       have h5 : j ∈ (Γ.map Prod.fst).filter (· != i) := by
        obtain ⟨d, hd, e⟩ := List.mem_map.1 h4
        exact e ▸ hDe d hd
       have : (((Γ.map Prod.fst).filter (· != i)).filter fun k => (D.map Prod.fst).contains k).contains j = true := by
        simp only [List.contains_iff_mem, List.mem_filter]
        exact ⟨by simpa using h5, by simpa using h4⟩
       rw [this] at h2; cases h2
      exact hfl2 h1' h3 hj
def e0C (ops : Array Oper) (m : Nat) (s : List LS) (tl : Pl) : Bool :=
 Region.noSelect ops && decide (m < ops.size) && decide (c0X s + tl.len = ops.size) && pL .any ops m tl s [] (Array.replicate ops.size false)
theorem aE {id : Nat} {a : Act} {w : World} {l : List Oper} {BL : List Blk} (hst : St S w0 w BL) (m : Nat) (s : List LS) (tl : Pl) (hm : P.follows .mixedOrders = true) (hB : e0C l.toArray m s tl = true)
  (hQ : ∀ c (d : Option Tmp) v a w, Q (.panic c) (Act.put a d v) w → Q (.panic c) a w)
  (h : Lad P l.toArray Q (fun w => St S w0 w BL) S w0 tl s [] BL (fun _ => True) (fun _ => a)) : (Code.region id l.toArray true).wp P Q a w := by
 simp only [e0C, Bool.and_eq_true, decide_eq_true_eq] at hB
 obtain ⟨⟨⟨hsel, hms⟩, hlen⟩, hok⟩ := hB
 have hmk : lK (Array.replicate l.toArray.size false) (List.map Prod.fst ([] : List (Nat × Value × Blk))) = Array.replicate l.toArray.size false := by
  refine mS (dP _ _) fun k hk => ?_
  rw [fW _ _ _ (by simpa [dP] using hk)]; simp
 have inv0 : Cl .any l.toArray (Array.replicate l.toArray.size false) :=
  ⟨by simp, fun j oj _ hl => (by rw [getD_replicate_false] at hl; cases hl)⟩
 have H := xH (md := .any) (Sx := fun w => St S w0 w BL) hsel hms hQ (l.toArray.size + s.length) l.toArray.size s [] (Array.replicate l.toArray.size false) [] (fun _ => undef) w.drew BL (fun _ => True) (fun _ => a)
  (Nat.le_refl _) (by simp [hlen]) Ae Ae Ae (by rw [hmk]; exact inv0) hok Ae ⟨by simp, by simp, by simp, fun _ _ _ _ => rfl⟩ Ae (by simpa using hst.drew) trivial (fun _ _ _ _ => trivial) (fun _ h => h) h
 rw [hmk] at H
 exact wp_region_any hm (jC _ _ _ _ H)
theorem Lad.weaken : ∀ (s : List LS) {Γ : List Flt} {BL : List Blk} {R R2 : World → Prop} {A : (Nat → Value) → Act}, (∀ w, R2 w → R w) → Lad P ops Q Sx S w0 tl s Γ BL R A → Lad P ops Q Sx S w0 tl s Γ BL R2 A
 | [], _, _, _, _, _, h2, h => fun x w a b => h x w a (h2 w b)
 | .w _ :: s, _, _, _, _, _, h2, ⟨o, v, a, b, c⟩ => ⟨o, v, a, b, Lad.weaken s h2 c⟩
 | .t _ :: s, _, _, _, _, _, h2, ⟨o, v, a, b, c⟩ => ⟨o, v, a, b, Lad.weaken s h2 c⟩
 | .c _ :: s, _, _, _, _, _, h2, ⟨o, a, b, X, v, R', c, d, e⟩ => ⟨o, a, b, X, v, R', c, fun x w p q => d x w p (h2 w q), fun y => Lad.weaken s (fun w h => ⟨h2 w h.1, h.2⟩) (e y)⟩
 | .o _ :: s, _, _, _, _, _, h2, ⟨o, e, v, L, T, a, b, c, d, f⟩ => ⟨o, e, v, L, T, a, b, c, d, Lad.weaken s h2 f⟩
 | .j _ :: s, _, _, _, _, _, h2, ⟨v, L, T, a, b⟩ => ⟨v, L, T, a, fun g => Lad.weaken s h2 (b g)⟩
variable {l : List Oper} {i : Nat} {s : List LS} {Γ : List Flt} {BL : List Blk} {R : World → Prop} {A : (Nat → Value) → Act} {o : Oper}
theorem bB (h : ∀ x w, St S w0 w BL → R w → dQ P l.toArray Q Sx tl (A x) w) : Lad P l.toArray Q Sx S w0 tl [] Γ BL R A := h
theorem aS (ho : l[i]? = some o) (hg : o.guard = none) {v : Value} (hv : ∀ x wx, (execOp (A x).eval o).run P wx = .ok (.value v) wx) (h : Lad P l.toArray Q Sx S w0 tl s Γ BL R (fun x => (A x).put o.dst v)) : Lad P l.toArray Q Sx S w0 tl (.w i :: s) Γ BL R A :=
 ⟨o, v, by simpa using ho, fun x => .inl ⟨by simp [Region.wanted, hg], fun wx _ => hv x wx⟩, h⟩
theorem dA (ho : l[i]? = some o) (hg : o.guard = none) {v : Value} (hv : ∀ x wx, Sx wx → (execOp (A x).eval o).run P wx = .ok (.value v) wx) (h : Lad P l.toArray Q Sx S w0 tl s Γ BL R (fun x => (A x).put o.dst v)) : Lad P l.toArray Q Sx S w0 tl (.t i :: s) Γ BL R A :=
 ⟨o, v, by simpa using ho, fun x => .inl ⟨by simp [Region.wanted, hg], hv x⟩, h⟩
theorem aD (ho : l[i]? = some o) (hg : o.guard = none) {ty : TypeId} {q : Operand} (hop : o.op = .load ty q) {g p : Nat} (hx : ∀ x, (A x).eval q = .pointer (some ⟨g, p, none⟩)) (cs : List Value) (hS : ∀ wx, Sx wx → wx.rangeAt g p cs)
  {d : TypeDesc} (hu : P.underlying ty = some d) (hd : d.isRow = true) (hi : (P.info? ty).map (·.size) = some cs.length) (h : Lad P l.toArray Q Sx S w0 tl s Γ BL R (fun x => (A x).put o.dst (.agg cs.toArray))) : Lad P l.toArray Q Sx S w0 tl (.t i :: s) Γ BL R A :=
 ⟨o, _, by simpa using ho, fun x => yieldsIf_load_mid Ax ty q hop g p (hx x) cs d hS hu hd hi, h⟩
theorem e0D {e : TypeId} {z : Value} (hi : (P.info? e).map (·.zero) = some (some z)) {a : Act} (hop : o.op = .alloc e) (L : List Value) (hL : z.cells.toList = L) : Mk P (execOp a.eval o) (fun g => .pointer (some ⟨g, 0, none⟩)) L e := by
 intro w
 obtain ⟨i, hi1, hz⟩ : ∃ i, P.info? e = some i ∧ i.zero = some z := by simpa using hi
 have hr : (Instr.alloc e true (.tuple #[])).run P w = .ok (.pointer (some ⟨w.heap.size, 0, none⟩)) (w.alloc (.cells z.cells e)) := by
  simp [Instr.alloc, zeroValue, typeInfo, hi1, hz, newVar, newRow]
 refine ⟨w.heap.size, w.alloc (.cells z.cells e), ?_, (Fr.refl _ w).alloc _, Nat.le_refl _, ?_⟩
 ·unfold execOp
  simp only [hop, Sem.run_bind, Sem.run_pure, Result.andThen_ok, hr]
 ·have hg := Has.new w z.cells e
  rwa [hL] at hg
theorem dK {e : TypeId} {z : Value} (ho : l[i]? = some o) (hg : o.guard = none) (hop : o.op = .alloc e) (hi : (P.info? e).map (·.zero) = some (some z)) (L : List Value) (hL : z.cells.toList = L) (h : Lad P l.toArray Q Sx S w0 tl s ((i, fun g => .pointer (some ⟨g, 0, none⟩), L, e) :: Γ) BL R (fun x => (A x).put o.dst (x i))) : Lad P l.toArray Q Sx S w0 tl (.o i :: s) Γ BL R A :=
 ⟨o, execOp (A fun _ => undef).eval o, _, L, e, by simpa using ho, hg, fun x => by unfold execOp; rw [hop], e0D hi hop L hL, h⟩
theorem dL {v : Nat → Value} {L : List Value} {T : TypeId} (hq : (i, v, L, T) ∈ Γ) (h : ∀ g, Lad P l.toArray Q Sx S w0 tl s (Γ.filter (·.1 != i)) (BL ++ [(g, L, T)]) R (fun x => A (upd x i (v g)))) : Lad P l.toArray Q Sx S w0 tl (.j i :: s) Γ BL R A :=
 ⟨v, L, T, hq, h⟩
theorem o0v {a : Act} {w : World} {K : Act → World → Prop} {f : FuncId} {xs : Array Operand} {ats : Array TypeId} (hop : o.op = .call { callee := .value (.func f), args := xs, argTypes := ats }) (hcl : ∀ us w, (callFunc f us).run P w = .ok (.enter f us) w)
  {vs : List Value} (hargs : xs.toList.map a.eval = vs) (h : Calls P f vs.toArray w fun e w' => ∃ v, e = .returned v ∧ K (a.put o.dst v) w') : o.wp P a w K Q := by
 have he : execOp a.eval o = callFunc f vs.toArray := by
  have h1 : execOp a.eval o = callFunc f (#[] ++ xs.map a.eval ++ #[]) := by
   unfold execOp
   rw [hop]
   rfl
  rw [h1]
  congr 1
  rw [← hargs]
  simp [← Array.toList_map]
 unfold Oper.wp
 rw [he, hcl]
 refine h.mono fun e w' h' => ?_
 obtain ⟨v, rfl, h2⟩ := h'
 exact h2
theorem aC {f : FuncId} {xs : Array Operand} {ats : Array TypeId} (ho : l[i]? = some o) (hg : o.guard = none) (hop : o.op = .call { callee := .value (.func f), args := xs, argTypes := ats }) (hcl : ∀ us w, (callFunc f us).run P w = .ok (.enter f us) w)
  {vs : List Value} {v : Value} (hc : ∀ w, St S w0 w BL → R w → Calls P f vs.toArray w fun e w' => e = .returned v ∧ Fr Nob w w') (hargs : ∀ x, xs.toList.map (A x).eval = vs)
  (h : Lad P l.toArray Q Sx S w0 tl s Γ BL R (fun x => (A x).put o.dst v)) : Lad P l.toArray Q Sx S w0 tl (.c i :: s) Γ BL R A := by
 exact ⟨o, by simpa using ho, hg, Unit, fun _ => v, fun _ _ => True, fun _ _ _ _ _ => trivial, fun x w hst hR => o0v hop hcl (hargs x) ((hc w hst hR).mono fun e w' h' => ⟨v, h'.1, (), rfl, h'.2, trivial⟩), fun _ => Lad.weaken s (fun w h => h.1) h⟩
theorem iG {X : Type} (v : X → Value) (R' : X → World → Prop) (hm : ∀ y w w', R' y w → Fr Nob w w' → R' y w') {f : FuncId} {xs : Array Operand} {ats : Array TypeId} (ho : l[i]? = some o) (hg : o.guard = none) (hop : o.op = .call { callee := .value (.func f), args := xs, argTypes := ats }) (hcl : ∀ us w, (callFunc f us).run P w = .ok (.enter f us) w)
  {vs : List Value} (hc : ∀ w, St S w0 w BL → R w → Calls P f vs.toArray w fun e w' => ∃ y, e = .returned (v y) ∧ R' y w' ∧ Fr Nob w w') (hargs : ∀ x, xs.toList.map (A x).eval = vs)
  (h : ∀ y, Lad P l.toArray Q Sx S w0 tl s Γ BL (fun w => R w ∧ R' y w) (fun x => (A x).put o.dst (v y))) : Lad P l.toArray Q Sx S w0 tl (.c i :: s) Γ BL R A :=
 ⟨o, by simpa using ho, hg, X, v, R', hm, fun x w hst hR => o0v hop hcl (hargs x) ((hc w hst hR).mono fun e w' h' => by obtain ⟨y, h1, h2, h3⟩ := h'; exact ⟨v y, h1, y, rfl, h3, h2⟩), h⟩
variable {rest : List Oper} {a : Act} {w : World}
end
end Go.Mv
namespace Go.Proofs.YtemcankmggmgoaaGreat
section
open Go.RowKit Go.Mv Mvp
theorem vT : (prog.info? 66).map (·.zero) = some (some (.agg (cw 4 0).toArray)) := by kernel_rfl
theorem eK (m : Md) (gp : Nat) (w : World) (hok : m.Ok) (hpm : Has w gp (mdL m) 187) (x r : Nat) (hr : x * x = r) :
  Calls prog 151 #[.pointer (some ⟨gp, 0, none⟩), i4 (elN m x)] w fun e w' => e = .returned (i4 (elN m r)) ∧ Fr Nob w w' := by
 subst hr; exact jJ m gp w hok hpm x
theorem fO (m : Md) (gp : Nat) (w : World) (hok : m.Ok) (hpm : Has w gp (mdL m) 187) (x y r : Nat) (hr : x * y = r) :
  Calls prog 152 #[.pointer (some ⟨gp, 0, none⟩), i4 (elN m x), i4 (elN m y)] w fun e w' => e = .returned (i4 (elN m r)) ∧ Fr Nob w w' := by
 subst hr; exact l0a m gp w hok hpm x y
theorem jZ (m : Md) (gp : Nat) (w : World) (hok : m.Ok) (hpm : Has w gp (mdL m) 187) (x y r : Nat) (hr : x + y = r) :
  Calls prog 171 #[.pointer (some ⟨gp, 0, none⟩), i4 (elN m x), i4 (elN m y)] w fun e w' => e = .returned (i4 (elN m r)) ∧ Fr Nob w w' := by
 subst hr; exact pJ m gp w hok hpm x y
theorem pM (m : Md) (gp : Nat) (w : World) (hok : m.Ok) (hpm : Has w gp (mdL m) 187) (x y r : Nat) (hr : x + (m.M - y % m.M) = r) :
  Calls prog 182 #[.pointer (some ⟨gp, 0, none⟩), i4 (elN m x), i4 (elN m y)] w fun e w' => e = .returned (i4 (elN m r)) ∧ Fr Nob w w' := by
 subst hr; exact e0v m gp w hok hpm x y
attribute [local irreducible] bI lw mix cw cT dG cS bQ aO beN dO cI dI bM bT elN mdL cL
theorem c0Y (m : Md) (gc gp bx by_ : Nat) (w : World) (hok : m.Ok) (hcv : Has w gc (nT m gp bx by_) 125) (hpm : Has w gp (mdL m) 187) (x y z : Nat) (hb : (z % m.M == 0) = true) :
  Calls prog 158 #[.pointer (some ⟨gc, 0, none⟩), ptV m x y z] w fun e w' => e = .returned (ptV m x y z) ∧ Fr Nob w w' := by
 have HOK := qH hok
 have HCV := qH hcv
 have HPM := qH hpm
 clear hok hcv hpm
 have HB := qH hb
 clear hb
 unfold ptV ptL
 have st0 := St.start Nob w
 go_enter func158, ntmps158
 go_wp2_with (with_reducible refine AA 3 ?_)
 refine aL st0 rfl rfl rfl (cw 4 (elN m x) ++ (cw 4 (elN m y) ++ cw 4 (elN m z))) rfl ?_
 intro g3 w1 st1
 clear st0
 go_wp2_with (with_reducible refine AA 4 ?_)
 refine aA st1 rfl rfl (z := zAc) Aa (cw 12 0) Af ?_
 intro g4 w2 st2
 clear st1
 go_wp2_with (with_reducible refine AA 13 ?_)
 refine aM st2 0 rfl rfl rfl underlying117 rfl rfl Aa ?_
 go_wp2_with fail
 refine (iW m HOK.out x y z true HB.out _).mono ?_
 rintro e' w3 ⟨rfl, hf3⟩
 have st3 := st2.keep hf3
 clear st2 hf3
 go_wp2_with (with_reducible refine AA 15 ?_)
 refine aM st3 0 rfl rfl rfl underlying117 rfl rfl Aa ?_
 go_wp2_with (with_reducible refine AB ?_)
 refine aB st3 1 rfl rfl rfl rfl rfl Ai Aa (bX _ _ _) ?_
 intro w4 st4
 clear st3
 have hr := st4.at 1 rfl
 have hfr := st4.fr
 clear st4
 go_wp2_with fail
 exact bodyPost_ret (aY rfl rfl hr underlying117 rfl Aa) rfl ⟨rfl, hfr⟩
theorem l0j (m : Md) (gc gp bx by_ : Nat) (w : World) (hok : m.Ok) (hcv : Has w gc (nT m gp bx by_) 125) (hpm : Has w gp (mdL m) 187) (x y z : Nat) (hb : (z % m.M == 0) = false) (a b bb s1 s2 s3 d1 d e1 ee f1 f2 X k1 k2 k3 z1 h1 h2 Y Z : Nat) (ea : x * x = a) (eb : y * y = b) (ebb : b * b = bb) (es1 : x + b = s1) (es2 : s1 * s1 = s2) (es3 : a + bb = s3) (ed1 : s2 + (m.M - s3 % m.M) = d1) (ed : d1 + d1 = d) (ee1 : a + a = e1) (eee : e1 + a = ee) (ef1 : ee * ee = f1) (ef2 : d + d = f2) (eX : f1 + (m.M - f2 % m.M) = X) (ek1 : bb + bb = k1) (ek2 : k1 + k1 = k2) (ek3 : k2 + k2 = k3) (ez1 : y * z = z1) (eh1 : d + (m.M - X % m.M) = h1) (eh2 : ee * h1 = h2) (eY : h2 + (m.M - k3 % m.M) = Y) (eZ : z1 + z1 = Z) :
  Calls prog 158 #[.pointer (some ⟨gc, 0, none⟩), ptV m x y z] w fun e w' => e = .returned (ptV m X Y Z) ∧ Fr Nob w w' := by
 have HOK := qH hok
 have HCV := qH hcv
 have HPM := qH hpm
 clear hok hcv hpm
 have HB := qH hb
 have Ha := qH ea
 have Hb := qH eb
 have Hbb := qH ebb
 have Hs1 := qH es1
 have Hs2 := qH es2
 have Hs3 := qH es3
 have Hd1 := qH ed1
 have Hd := qH ed
 have He1 := qH ee1
 have Hee := qH eee
 have Hf1 := qH ef1
 have Hf2 := qH ef2
 have HX := qH eX
 have Hk1 := qH ek1
 have Hk2 := qH ek2
 have Hk3 := qH ek3
 have Hz1 := qH ez1
 have Hh1 := qH eh1
 have Hh2 := qH eh2
 have HY := qH eY
 have HZ := qH eZ
 clear hb ea eb ebb es1 es2 es3 ed1 ed ee1 eee ef1 ef2 eX ek1 ek2 ek3 ez1 eh1 eh2 eY eZ
 unfold ptV ptL
 have st0 := St.start Nob w
 go_enter func158, ntmps158
 go_wp2_with (with_reducible refine AA 3 ?_)
 refine aL st0 rfl rfl rfl (cw 4 (elN m x) ++ (cw 4 (elN m y) ++ cw 4 (elN m z))) rfl ?_
 intro g3 w1 st1
 clear st0
 go_wp2_with (with_reducible refine AA 4 ?_)
 refine aA st1 rfl rfl (z := zAc) Aa (cw 12 0) Af ?_
 intro g4 w2 st2
 clear st1
 go_wp2_with (with_reducible refine AA 13 ?_)
 refine aM st2 0 rfl rfl rfl underlying117 rfl rfl Aa ?_
 go_wp2_with fail
 refine (iW m HOK.out x y z false HB.out _).mono ?_
 rintro e' w3 ⟨rfl, hf3⟩
 have st3 := st2.keep hf3
 clear st2 hf3
 go_wp2_with fail
 refine wp_region_noPanic ?_
 refine aE st3 17 [.o 14, .o 15, .w 0, .w 1, .w 2, .t 3, .w 4, .t 5, .w 7, .w 8, .w 9, .t 10, .w 11, .t 12, .c 6, .c 13, .j 14, .j 15] (.r 16 (.m 17 .nil)) Aa Aa (fun _ _ _ _ _ h => h) ?_
 clear st3
 refine dK rfl rfl rfl vT (cw 4 0) rfl ?_
 try simp only [J]
 refine dK rfl rfl rfl vT (cw 4 0) rfl ?_
 try simp only [J]
 iterate 3 (refine aS rfl rfl apX ?_; try simp only [J])
 refine dA (v := ?_) rfl rfl (fun xq wx hS => ?_) ?_
 rotate_left 1
 ·(have hc := (HCV.out.keep (St.fr hS) id).cell (i := 0) rfl; clear hS; go_simp; with_reducible rfl)
 try simp only [J]
 refine aS rfl rfl apX ?_
 try simp only [J]
 refine aD rfl rfl rfl (fun _ => rfl) (cw 4 (elN m x)) (fun wx hS => St.rangeL hS 0 rfl 0 _ (vS _ _ _)) underlying66 rfl Aa ?_
 try simp only [J]
 iterate 3 (refine aS rfl rfl apX ?_; try simp only [J])
 refine dA (v := ?_) rfl rfl (fun xq wx hS => ?_) ?_
 rotate_left 1
 ·(have hc := (HCV.out.keep (St.fr hS) id).cell (i := 0) rfl; clear hS; go_simp; with_reducible rfl)
 try simp only [J]
 refine aS rfl rfl apX ?_
 try simp only [J]
 refine aD rfl rfl rfl (fun _ => rfl) (cw 4 (elN m y)) (fun wx hS => St.rangeL hS 0 rfl 4 _ (a0z _ _ _)) underlying66 rfl Aa ?_
 try simp only [J]
 refine aC rfl rfl rfl call151 (fun w hS hR => eK m gp _ HOK.out (HPM.out.keep hS.fr id) x a Ha.out) (fun _ => rfl) ?_
 try simp only [J]
 refine aC rfl rfl rfl call151 (fun w hS hR => eK m gp _ HOK.out (HPM.out.keep hS.fr id) y b Hb.out) (fun _ => rfl) ?_
 try simp only [J]
 refine dL (List.mem_cons_of_mem _ List.mem_cons_self) fun g5 => ?_
 simp only [upd, reduceIte]
 try simp only [Nat.reduceEqDiff, reduceIte]
 refine dL List.mem_cons_self fun g6 => ?_
 simp only [upd, reduceIte]
 refine bB fun xq w4 st4 hR => ?_
 try dsimp only
 clear hR xq
 refine bC rfl rfl ?_
 refine aG st4 2 rfl rfl rfl rfl Ai Aa (aF _ _) ?_
 intro w5 st5
 repeat (first | simp only [List.cons_append] at st5 | simp only [List.nil_append] at st5 | simp only [List.set_cons_succ] at st5 | simp only [List.set_cons_zero] at st5)
 clear st4
 refine ⟨by first | exact st5 | exact St.less st5 Ae, ?_⟩
 try simp only [Act.put]
 refine aU rfl rfl ?_
 refine aG st5 3 rfl rfl rfl rfl Ai Aa (aF _ _) ?_
 intro w6 st6
 try simp only [List.set_cons_zero, List.set_cons_succ] at st6
 clear st5
 try simp only [Act.put]
 refine aH ?_
 refine NoPanic.normal ?_
 go_wp2_with fail
 refine wp_region_noPanic ?_
 refine aE st6 7 [.o 6, .w 0, .w 1, .w 2, .t 3, .t 4, .c 5, .j 6] (.m 7 .nil) Aa Aa (fun _ _ _ _ _ h => h) ?_
 clear st6
 refine dK rfl rfl rfl vT (cw 4 0) rfl ?_
 try simp only [J]
 iterate 3 (refine aS rfl rfl apX ?_; try simp only [J])
 refine dA (v := ?_) rfl rfl (fun xq wx hS => ?_) ?_
 rotate_left 1
 ·(have hc := (HCV.out.keep (St.fr hS) id).cell (i := 0) rfl; clear hS; go_simp; with_reducible rfl)
 try simp only [J]
 refine aD rfl rfl rfl (fun _ => rfl) (cw 4 (elN m b)) (fun wx hS => St.rangeL hS 3 rfl 0 _ dZl) underlying66 rfl Aa ?_
 try simp only [J]
 refine aC rfl rfl rfl call151 (fun w hS hR => eK m gp _ HOK.out (HPM.out.keep hS.fr id) b bb Hbb.out) (fun _ => rfl) ?_
 try simp only [J]
 refine dL List.mem_cons_self fun g7 => ?_
 simp only [upd, reduceIte]
 refine bB fun xq w7 st7 hR => ?_
 try dsimp only
 clear hR xq
 refine aU rfl rfl ?_
 refine aG st7 4 rfl rfl rfl rfl Ai Aa (aF _ _) ?_
 intro w8 st8
 repeat (first | simp only [List.cons_append] at st8 | simp only [List.nil_append] at st8 | simp only [List.set_cons_succ] at st8 | simp only [List.set_cons_zero] at st8)
 clear st7
 try simp only [Act.put]
 refine aH ?_
 refine NoPanic.normal ?_
 go_wp2_with fail
 refine wp_region_noPanic ?_
 refine aE st8 26 [.o 25, .w 0, .w 1, .w 2, .t 3, .w 4, .w 5, .w 6, .t 7, .w 8, .w 9, .w 10, .t 11, .w 12, .t 13, .t 14, .w 17, .w 18, .w 19, .t 20, .t 21, .t 22, .c 15, .c 16, .c 23, .c 24, .j 25] (.m 26 .nil) Aa Aa (fun _ _ _ _ _ h => h) ?_
 clear st8
 refine dK rfl rfl rfl vT (cw 4 0) rfl ?_
 try simp only [J]
 iterate 3 (refine aS rfl rfl apX ?_; try simp only [J])
 refine dA (v := ?_) rfl rfl (fun xq wx hS => ?_) ?_
 rotate_left 1
 ·(have hc := (HCV.out.keep (St.fr hS) id).cell (i := 0) rfl; clear hS; go_simp; with_reducible rfl)
 try simp only [J]
 iterate 3 (refine aS rfl rfl apX ?_; try simp only [J])
 refine dA (v := ?_) rfl rfl (fun xq wx hS => ?_) ?_
 rotate_left 1
 ·(have hc := (HCV.out.keep (St.fr hS) id).cell (i := 0) rfl; clear hS; go_simp; with_reducible rfl)
 try simp only [J]
 iterate 3 (refine aS rfl rfl apX ?_; try simp only [J])
 refine dA (v := ?_) rfl rfl (fun xq wx hS => ?_) ?_
 rotate_left 1
 ·(have hc := (HCV.out.keep (St.fr hS) id).cell (i := 0) rfl; clear hS; go_simp; with_reducible rfl)
 try simp only [J]
 refine aS rfl rfl apX ?_
 try simp only [J]
 refine aD rfl rfl rfl (fun _ => rfl) (cw 4 (elN m x)) (fun wx hS => St.rangeL hS 0 rfl 0 _ (vS _ _ _)) underlying66 rfl Aa ?_
 try simp only [J]
 refine aD rfl rfl rfl (fun _ => rfl) (cw 4 (elN m b)) (fun wx hS => St.rangeL hS 3 rfl 0 _ dZl) underlying66 rfl Aa ?_
 try simp only [J]
 iterate 3 (refine aS rfl rfl apX ?_; try simp only [J])
 refine dA (v := ?_) rfl rfl (fun xq wx hS => ?_) ?_
 rotate_left 1
 ·(have hc := (HCV.out.keep (St.fr hS) id).cell (i := 0) rfl; clear hS; go_simp; with_reducible rfl)
 try simp only [J]
 refine aD rfl rfl rfl (fun _ => rfl) (cw 4 (elN m a)) (fun wx hS => St.rangeL hS 2 rfl 0 _ dZl) underlying66 rfl Aa ?_
 try simp only [J]
 refine aD rfl rfl rfl (fun _ => rfl) (cw 4 (elN m bb)) (fun wx hS => St.rangeL hS 4 rfl 0 _ dZl) underlying66 rfl Aa ?_
 try simp only [J]
 refine aC rfl rfl rfl call171 (fun w hS hR => jZ m gp _ HOK.out (HPM.out.keep hS.fr id) x b s1 Hs1.out) (fun _ => rfl) ?_
 try simp only [J]
 refine aC rfl rfl rfl call151 (fun w hS hR => eK m gp _ HOK.out (HPM.out.keep hS.fr id) s1 s2 Hs2.out) (fun _ => rfl) ?_
 try simp only [J]
 refine aC rfl rfl rfl call171 (fun w hS hR => jZ m gp _ HOK.out (HPM.out.keep hS.fr id) a bb s3 Hs3.out) (fun _ => rfl) ?_
 try simp only [J]
 refine aC rfl rfl rfl call182 (fun w hS hR => pM m gp _ HOK.out (HPM.out.keep hS.fr id) s2 s3 d1 Hd1.out) (fun _ => rfl) ?_
 try simp only [J]
 refine dL List.mem_cons_self fun g8 => ?_
 simp only [upd, reduceIte]
 refine bB fun xq w9 st9 hR => ?_
 try dsimp only
 clear hR xq
 refine aU rfl rfl ?_
 refine aG st9 5 rfl rfl rfl rfl Ai Aa (aF _ _) ?_
 intro w10 st10
 repeat (first | simp only [List.cons_append] at st10 | simp only [List.nil_append] at st10 | simp only [List.set_cons_succ] at st10 | simp only [List.set_cons_zero] at st10)
 clear st9
 try simp only [Act.put]
 refine aH ?_
 refine NoPanic.normal ?_
 go_wp2_with fail
 refine wp_region_noPanic ?_
 refine aE st10 7 [.w 0, .w 1, .w 2, .t 3, .t 4, .t 5, .c 6] (.m 7 .nil) Aa Aa (fun _ _ _ _ _ h => h) ?_
 clear st10
 iterate 3 (refine aS rfl rfl apX ?_; try simp only [J])
 refine dA (v := ?_) rfl rfl (fun xq wx hS => ?_) ?_
 rotate_left 1
 ·(have hc := (HCV.out.keep (St.fr hS) id).cell (i := 0) rfl; clear hS; go_simp; with_reducible rfl)
 try simp only [J]
 refine aD rfl rfl rfl (fun _ => rfl) (cw 4 (elN m d1)) (fun wx hS => St.rangeL hS 5 rfl 0 _ dZl) underlying66 rfl Aa ?_
 try simp only [J]
 refine aD rfl rfl rfl (fun _ => rfl) (cw 4 (elN m d1)) (fun wx hS => St.rangeL hS 5 rfl 0 _ dZl) underlying66 rfl Aa ?_
 try simp only [J]
 refine aC rfl rfl rfl call171 (fun w hS hR => jZ m gp _ HOK.out (HPM.out.keep hS.fr id) d1 d1 d Hd.out) (fun _ => rfl) ?_
 try simp only [J]
 refine bB fun xq w11 st11 hR => ?_
 try dsimp only
 clear hR xq
 refine aU rfl rfl ?_
 refine aG st11 5 rfl rfl rfl rfl Ai Aa (aF _ _) ?_
 intro w12 st12
 try simp only [List.set_cons_zero, List.set_cons_succ] at st12
 clear st11
 try simp only [Act.put]
 refine aH ?_
 refine NoPanic.normal ?_
 go_wp2_with fail
 refine wp_region_noPanic ?_
 refine aE st12 14 [.o 13, .w 0, .w 1, .w 2, .t 3, .w 4, .w 5, .w 6, .t 7, .t 8, .t 9, .t 11, .c 10, .c 12, .j 13] (.m 14 .nil) Aa Aa (fun _ _ _ _ _ h => h) ?_
 clear st12
 refine dK rfl rfl rfl vT (cw 4 0) rfl ?_
 try simp only [J]
 iterate 3 (refine aS rfl rfl apX ?_; try simp only [J])
 refine dA (v := ?_) rfl rfl (fun xq wx hS => ?_) ?_
 rotate_left 1
 ·(have hc := (HCV.out.keep (St.fr hS) id).cell (i := 0) rfl; clear hS; go_simp; with_reducible rfl)
 try simp only [J]
 iterate 3 (refine aS rfl rfl apX ?_; try simp only [J])
 refine dA (v := ?_) rfl rfl (fun xq wx hS => ?_) ?_
 rotate_left 1
 ·(have hc := (HCV.out.keep (St.fr hS) id).cell (i := 0) rfl; clear hS; go_simp; with_reducible rfl)
 try simp only [J]
 refine aD rfl rfl rfl (fun _ => rfl) (cw 4 (elN m a)) (fun wx hS => St.rangeL hS 2 rfl 0 _ dZl) underlying66 rfl Aa ?_
 try simp only [J]
 refine aD rfl rfl rfl (fun _ => rfl) (cw 4 (elN m a)) (fun wx hS => St.rangeL hS 2 rfl 0 _ dZl) underlying66 rfl Aa ?_
 try simp only [J]
 refine aD rfl rfl rfl (fun _ => rfl) (cw 4 (elN m a)) (fun wx hS => St.rangeL hS 2 rfl 0 _ dZl) underlying66 rfl Aa ?_
 try simp only [J]
 refine aC rfl rfl rfl call171 (fun w hS hR => jZ m gp _ HOK.out (HPM.out.keep hS.fr id) a a e1 He1.out) (fun _ => rfl) ?_
 try simp only [J]
 refine aC rfl rfl rfl call171 (fun w hS hR => jZ m gp _ HOK.out (HPM.out.keep hS.fr id) e1 a ee Hee.out) (fun _ => rfl) ?_
 try simp only [J]
 refine dL List.mem_cons_self fun g9 => ?_
 simp only [upd, reduceIte]
 refine bB fun xq w13 st13 hR => ?_
 try dsimp only
 clear hR xq
 refine aU rfl rfl ?_
 refine aG st13 6 rfl rfl rfl rfl Ai Aa (aF _ _) ?_
 intro w14 st14
 repeat (first | simp only [List.cons_append] at st14 | simp only [List.nil_append] at st14 | simp only [List.set_cons_succ] at st14 | simp only [List.set_cons_zero] at st14)
 clear st13
 try simp only [Act.put]
 refine aH ?_
 refine NoPanic.normal ?_
 go_wp2_with fail
 refine wp_region_noPanic ?_
 refine aE st14 19 [.o 18, .w 0, .w 1, .w 2, .t 3, .w 4, .w 5, .w 6, .t 7, .t 8, .w 10, .w 11, .w 12, .t 13, .t 14, .t 15, .c 9, .c 16, .c 17, .j 18] (.m 19 .nil) Aa Aa (fun _ _ _ _ _ h => h) ?_
 clear st14
 refine dK rfl rfl rfl vT (cw 4 0) rfl ?_
 try simp only [J]
 iterate 3 (refine aS rfl rfl apX ?_; try simp only [J])
 refine dA (v := ?_) rfl rfl (fun xq wx hS => ?_) ?_
 rotate_left 1
 ·(have hc := (HCV.out.keep (St.fr hS) id).cell (i := 0) rfl; clear hS; go_simp; with_reducible rfl)
 try simp only [J]
 iterate 3 (refine aS rfl rfl apX ?_; try simp only [J])
 refine dA (v := ?_) rfl rfl (fun xq wx hS => ?_) ?_
 rotate_left 1
 ·(have hc := (HCV.out.keep (St.fr hS) id).cell (i := 0) rfl; clear hS; go_simp; with_reducible rfl)
 try simp only [J]
 refine aD rfl rfl rfl (fun _ => rfl) (cw 4 (elN m ee)) (fun wx hS => St.rangeL hS 6 rfl 0 _ dZl) underlying66 rfl Aa ?_
 try simp only [J]
 iterate 3 (refine aS rfl rfl apX ?_; try simp only [J])
 refine dA (v := ?_) rfl rfl (fun xq wx hS => ?_) ?_
 rotate_left 1
 ·(have hc := (HCV.out.keep (St.fr hS) id).cell (i := 0) rfl; clear hS; go_simp; with_reducible rfl)
 try simp only [J]
 refine aD rfl rfl rfl (fun _ => rfl) (cw 4 (elN m d)) (fun wx hS => St.rangeL hS 5 rfl 0 _ dZl) underlying66 rfl Aa ?_
 try simp only [J]
 refine aD rfl rfl rfl (fun _ => rfl) (cw 4 (elN m d)) (fun wx hS => St.rangeL hS 5 rfl 0 _ dZl) underlying66 rfl Aa ?_
 try simp only [J]
 refine aC rfl rfl rfl call151 (fun w hS hR => eK m gp _ HOK.out (HPM.out.keep hS.fr id) ee f1 Hf1.out) (fun _ => rfl) ?_
 try simp only [J]
 refine aC rfl rfl rfl call171 (fun w hS hR => jZ m gp _ HOK.out (HPM.out.keep hS.fr id) d d f2 Hf2.out) (fun _ => rfl) ?_
 try simp only [J]
 refine aC rfl rfl rfl call182 (fun w hS hR => pM m gp _ HOK.out (HPM.out.keep hS.fr id) f1 f2 X HX.out) (fun _ => rfl) ?_
 try simp only [J]
 refine dL List.mem_cons_self fun g10 => ?_
 simp only [upd, reduceIte]
 refine bB fun xq w15 st15 hR => ?_
 try dsimp only
 clear hR xq
 refine aU rfl rfl ?_
 refine aG st15 7 rfl rfl rfl rfl Ai Aa (aF _ _) ?_
 intro w16 st16
 repeat (first | simp only [List.cons_append] at st16 | simp only [List.nil_append] at st16 | simp only [List.set_cons_succ] at st16 | simp only [List.set_cons_zero] at st16)
 clear st15
 try simp only [Act.put]
 refine aH ?_
 refine NoPanic.normal ?_
 go_wp2_with fail
 refine wp_region_noPanic ?_
 refine aE st16 8 [.o 7, .w 0, .w 1, .w 2, .t 3, .t 4, .t 5, .c 6, .j 7] (.m 8 .nil) Aa Aa (fun _ _ _ _ _ h => h) ?_
 clear st16
 refine dK rfl rfl rfl vT (cw 4 0) rfl ?_
 try simp only [J]
 iterate 3 (refine aS rfl rfl apX ?_; try simp only [J])
 refine dA (v := ?_) rfl rfl (fun xq wx hS => ?_) ?_
 rotate_left 1
 ·(have hc := (HCV.out.keep (St.fr hS) id).cell (i := 0) rfl; clear hS; go_simp; with_reducible rfl)
 try simp only [J]
 refine aD rfl rfl rfl (fun _ => rfl) (cw 4 (elN m bb)) (fun wx hS => St.rangeL hS 4 rfl 0 _ dZl) underlying66 rfl Aa ?_
 try simp only [J]
 refine aD rfl rfl rfl (fun _ => rfl) (cw 4 (elN m bb)) (fun wx hS => St.rangeL hS 4 rfl 0 _ dZl) underlying66 rfl Aa ?_
 try simp only [J]
 refine aC rfl rfl rfl call171 (fun w hS hR => jZ m gp _ HOK.out (HPM.out.keep hS.fr id) bb bb k1 Hk1.out) (fun _ => rfl) ?_
 try simp only [J]
 refine dL List.mem_cons_self fun g11 => ?_
 simp only [upd, reduceIte]
 refine bB fun xq w17 st17 hR => ?_
 try dsimp only
 clear hR xq
 refine aU rfl rfl ?_
 refine aG st17 8 rfl rfl rfl rfl Ai Aa (aF _ _) ?_
 intro w18 st18
 repeat (first | simp only [List.cons_append] at st18 | simp only [List.nil_append] at st18 | simp only [List.set_cons_succ] at st18 | simp only [List.set_cons_zero] at st18)
 clear st17
 try simp only [Act.put]
 refine aH ?_
 refine NoPanic.normal ?_
 go_wp2_with fail
 refine wp_region_noPanic ?_
 refine aE st18 7 [.w 0, .w 1, .w 2, .t 3, .t 4, .t 5, .c 6] (.m 7 .nil) Aa Aa (fun _ _ _ _ _ h => h) ?_
 clear st18
 iterate 3 (refine aS rfl rfl apX ?_; try simp only [J])
 refine dA (v := ?_) rfl rfl (fun xq wx hS => ?_) ?_
 rotate_left 1
 ·(have hc := (HCV.out.keep (St.fr hS) id).cell (i := 0) rfl; clear hS; go_simp; with_reducible rfl)
 try simp only [J]
 refine aD rfl rfl rfl (fun _ => rfl) (cw 4 (elN m k1)) (fun wx hS => St.rangeL hS 8 rfl 0 _ dZl) underlying66 rfl Aa ?_
 try simp only [J]
 refine aD rfl rfl rfl (fun _ => rfl) (cw 4 (elN m k1)) (fun wx hS => St.rangeL hS 8 rfl 0 _ dZl) underlying66 rfl Aa ?_
 try simp only [J]
 refine aC rfl rfl rfl call171 (fun w hS hR => jZ m gp _ HOK.out (HPM.out.keep hS.fr id) k1 k1 k2 Hk2.out) (fun _ => rfl) ?_
 try simp only [J]
 refine bB fun xq w19 st19 hR => ?_
 try dsimp only
 clear hR xq
 refine aU rfl rfl ?_
 refine aG st19 8 rfl rfl rfl rfl Ai Aa (aF _ _) ?_
 intro w20 st20
 try simp only [List.set_cons_zero, List.set_cons_succ] at st20
 clear st19
 try simp only [Act.put]
 refine aH ?_
 refine NoPanic.normal ?_
 go_wp2_with fail
 refine wp_region_noPanic ?_
 refine aE st20 7 [.w 0, .w 1, .w 2, .t 3, .t 4, .t 5, .c 6] (.m 7 .nil) Aa Aa (fun _ _ _ _ _ h => h) ?_
 clear st20
 iterate 3 (refine aS rfl rfl apX ?_; try simp only [J])
 refine dA (v := ?_) rfl rfl (fun xq wx hS => ?_) ?_
 rotate_left 1
 ·(have hc := (HCV.out.keep (St.fr hS) id).cell (i := 0) rfl; clear hS; go_simp; with_reducible rfl)
 try simp only [J]
 refine aD rfl rfl rfl (fun _ => rfl) (cw 4 (elN m k2)) (fun wx hS => St.rangeL hS 8 rfl 0 _ dZl) underlying66 rfl Aa ?_
 try simp only [J]
 refine aD rfl rfl rfl (fun _ => rfl) (cw 4 (elN m k2)) (fun wx hS => St.rangeL hS 8 rfl 0 _ dZl) underlying66 rfl Aa ?_
 try simp only [J]
 refine aC rfl rfl rfl call171 (fun w hS hR => jZ m gp _ HOK.out (HPM.out.keep hS.fr id) k2 k2 k3 Hk3.out) (fun _ => rfl) ?_
 try simp only [J]
 refine bB fun xq w21 st21 hR => ?_
 try dsimp only
 clear hR xq
 refine aU rfl rfl ?_
 refine aG st21 8 rfl rfl rfl rfl Ai Aa (aF _ _) ?_
 intro w22 st22
 try simp only [List.set_cons_zero, List.set_cons_succ] at st22
 clear st21
 try simp only [Act.put]
 refine aH ?_
 refine NoPanic.normal ?_
 go_wp2_with fail
 refine wp_region_noPanic ?_
 refine aE st22 10 [.o 9, .w 0, .w 1, .w 2, .t 3, .w 4, .t 5, .w 6, .t 7, .c 8, .j 9] (.m 10 .nil) Aa Aa (fun _ _ _ _ _ h => h) ?_
 clear st22
 refine dK rfl rfl rfl vT (cw 4 0) rfl ?_
 try simp only [J]
 iterate 3 (refine aS rfl rfl apX ?_; try simp only [J])
 refine dA (v := ?_) rfl rfl (fun xq wx hS => ?_) ?_
 rotate_left 1
 ·(have hc := (HCV.out.keep (St.fr hS) id).cell (i := 0) rfl; clear hS; go_simp; with_reducible rfl)
 try simp only [J]
 refine aS rfl rfl apX ?_
 try simp only [J]
 refine aD rfl rfl rfl (fun _ => rfl) (cw 4 (elN m y)) (fun wx hS => St.rangeL hS 0 rfl 4 _ (a0z _ _ _)) underlying66 rfl Aa ?_
 try simp only [J]
 refine aS rfl rfl apX ?_
 try simp only [J]
 refine aD rfl rfl rfl (fun _ => rfl) (cw 4 (elN m z)) (fun wx hS => St.rangeL hS 0 rfl 8 _ (mR _ _ _)) underlying66 rfl Aa ?_
 try simp only [J]
 refine aC rfl rfl rfl call152 (fun w hS hR => fO m gp _ HOK.out (HPM.out.keep hS.fr id) y z z1 Hz1.out) (fun _ => rfl) ?_
 try simp only [J]
 refine dL List.mem_cons_self fun g12 => ?_
 simp only [upd, reduceIte]
 refine bB fun xq w23 st23 hR => ?_
 try dsimp only
 clear hR xq
 refine aU rfl rfl ?_
 refine aG st23 9 rfl rfl rfl rfl Ai Aa (aF _ _) ?_
 intro w24 st24
 repeat (first | simp only [List.cons_append] at st24 | simp only [List.nil_append] at st24 | simp only [List.set_cons_succ] at st24 | simp only [List.set_cons_zero] at st24)
 clear st23
 try simp only [Act.put]
 refine aH ?_
 refine NoPanic.normal ?_
 go_wp2_with fail
 refine wp_region_noPanic ?_
 refine aE st24 28 [.t 0, .w 1, .w 2, .w 3, .t 4, .w 5, .w 6, .w 7, .t 8, .t 9, .w 10, .w 11, .w 12, .t 13, .t 14, .t 15, .t 18, .w 20, .w 21, .w 22, .t 23, .t 24, .t 25, .c 16, .c 17, .c 19, .c 26, .w 27] (.m 28 .nil) Aa Aa (fun _ _ _ _ _ h => h) ?_
 clear st24
 refine aD rfl rfl rfl (fun _ => rfl) (cw 4 (elN m X)) (fun wx hS => St.rangeL hS 7 rfl 0 _ dZl) underlying66 rfl Aa ?_
 try simp only [J]
 iterate 3 (refine aS rfl rfl apX ?_; try simp only [J])
 refine dA (v := ?_) rfl rfl (fun xq wx hS => ?_) ?_
 rotate_left 1
 ·(have hc := (HCV.out.keep (St.fr hS) id).cell (i := 0) rfl; clear hS; go_simp; with_reducible rfl)
 try simp only [J]
 iterate 3 (refine aS rfl rfl apX ?_; try simp only [J])
 refine dA (v := ?_) rfl rfl (fun xq wx hS => ?_) ?_
 rotate_left 1
 ·(have hc := (HCV.out.keep (St.fr hS) id).cell (i := 0) rfl; clear hS; go_simp; with_reducible rfl)
 try simp only [J]
 refine aD rfl rfl rfl (fun _ => rfl) (cw 4 (elN m ee)) (fun wx hS => St.rangeL hS 6 rfl 0 _ dZl) underlying66 rfl Aa ?_
 try simp only [J]
 iterate 3 (refine aS rfl rfl apX ?_; try simp only [J])
 refine dA (v := ?_) rfl rfl (fun xq wx hS => ?_) ?_
 rotate_left 1
 ·(have hc := (HCV.out.keep (St.fr hS) id).cell (i := 0) rfl; clear hS; go_simp; with_reducible rfl)
 try simp only [J]
 refine aD rfl rfl rfl (fun _ => rfl) (cw 4 (elN m d)) (fun wx hS => St.rangeL hS 5 rfl 0 _ dZl) underlying66 rfl Aa ?_
 try simp only [J]
 refine aD rfl rfl rfl (fun _ => rfl) (cw 4 (elN m X)) (fun wx hS => St.rangeL hS 7 rfl 0 _ dZl) underlying66 rfl Aa ?_
 try simp only [J]
 refine aD rfl rfl rfl (fun _ => rfl) (cw 4 (elN m k3)) (fun wx hS => St.rangeL hS 8 rfl 0 _ dZl) underlying66 rfl Aa ?_
 try simp only [J]
 iterate 3 (refine aS rfl rfl apX ?_; try simp only [J])
 refine dA (v := ?_) rfl rfl (fun xq wx hS => ?_) ?_
 rotate_left 1
 ·(have hc := (HCV.out.keep (St.fr hS) id).cell (i := 0) rfl; clear hS; go_simp; with_reducible rfl)
 try simp only [J]
 refine aD rfl rfl rfl (fun _ => rfl) (cw 4 (elN m z1)) (fun wx hS => St.rangeL hS 9 rfl 0 _ dZl) underlying66 rfl Aa ?_
 try simp only [J]
 refine aD rfl rfl rfl (fun _ => rfl) (cw 4 (elN m z1)) (fun wx hS => St.rangeL hS 9 rfl 0 _ dZl) underlying66 rfl Aa ?_
 try simp only [J]
 refine aC rfl rfl rfl call182 (fun w hS hR => pM m gp _ HOK.out (HPM.out.keep hS.fr id) d X h1 Hh1.out) (fun _ => rfl) ?_
 try simp only [J]
 refine aC rfl rfl rfl call152 (fun w hS hR => fO m gp _ HOK.out (HPM.out.keep hS.fr id) ee h1 h2 Hh2.out) (fun _ => rfl) ?_
 try simp only [J]
 refine aC rfl rfl rfl call182 (fun w hS hR => pM m gp _ HOK.out (HPM.out.keep hS.fr id) h2 k3 Y HY.out) (fun _ => rfl) ?_
 try simp only [J]
 refine aC rfl rfl rfl call171 (fun w hS hR => jZ m gp _ HOK.out (HPM.out.keep hS.fr id) z1 z1 Z HZ.out) (fun _ => rfl) ?_
 try simp only [J]
 refine aS rfl rfl (fun _ => cC rfl _ (nE _ _ _)) ?_
 try simp only [J]
 refine bB fun xq w25 st25 hR => ?_
 try dsimp only
 clear hR xq
 refine aU rfl rfl ?_
 refine aG st25 1 rfl rfl rfl rfl Ai Aa (bX _ _ _) ?_
 intro w26 st26
 try simp only [List.set_cons_zero, List.set_cons_succ] at st26
 clear st25
 try simp only [Act.put]
 refine aH ?_
 refine NoPanic.normal ?_
 have hr := st26.at 1 rfl
 have hfr := st26.fr
 clear st26
 go_wp2_with fail
 exact bodyPost_ret (aY rfl rfl hr underlying117 rfl Aa) rfl ⟨rfl, hfr⟩
end
section
open Go.RowKit Go.Mv Mvp
attribute [local irreducible] bI lw mix cw cT dG cS bQ aO beN dO cI dI bM bT elN mdL dE cL
end
section
open Go.RowKit Go.Mv Mvp
theorem l0k (m : Md) (gp : Nat) (w : World) (hok : m.Ok) (hpm : Has w gp (mdL m) 187) (x : Nat) (hr : dW m.M x = true) :
  Calls prog 198 #[.pointer (some ⟨gp, 0, none⟩), i4 (elN m x)] w fun e w' => e = .returned (.tuple #[i4 (elN m (rtV m.M x)), .bool true]) ∧ Fr Nob w w' := by
 unfold dW at hr
 unfold rtV
 unfold rtN at *
 generalize hn : m.M / 4 + 1 = n at *
 by_cases hb : x ^ n % m.M % 2 = 1
 ·rw [if_pos hb]; exact i0n m gp w hok hpm x n hn hr hb
 ·rw [if_neg hb]; exact g0c m gp w hok hpm x n hn hr Ab
theorem l0l (m : Md) (gp : Nat) (w : World) (hok : m.Ok) (hpm : Has w gp (mdL m) 187) (x : Nat) (hr : dW m.M x = false) :
  Calls prog 198 #[.pointer (some ⟨gp, 0, none⟩), i4 (elN m x)] w fun e w' => e = .returned (.tuple #[i4 0, .bool false]) ∧ Fr Nob w w' := by
 unfold dW at hr
 unfold rtN at *
 exact g0b m gp w hok hpm x _ rfl hr
attribute [local irreducible] bI lw mix cw cT dG cS bQ aO beN dO cI dI bM bT elN mdL dE cL rtN dW rtV
end
section
open Go.RowKit Go.Mv Mvp
attribute [local irreducible] bI lw mix cw cT dG cS bQ aO beN dO cI dI bM bT elN mdL cL rtN rtV dW
theorem s0D (m : Md) (gc gp bx by_ : Nat) (w : World) (hok : m.Ok) (hcv : Has w gc (nT m gp bx by_) 125) (hpm : Has w gp (mdL m) 187) (x xx x3 cv : Nat) (exx : x * x = xx) (ex3 : xx * x = x3) (ecv : x3 + 7 = cv) (hr : dW m.M cv = true) :
  Calls prog 184 #[.pointer (some ⟨gc, 0, none⟩), i4 (elN m x)] w fun e w' => e = .returned (.tuple #[ptV m x (rtV m.M cv) 1, .bool true]) ∧ Fr Nob w w' := by
 have HOK := qH hok
 have HCV := qH hcv
 have HPM := qH hpm
 clear hok hcv hpm
 have HR := qH hr
 have Hxx := qH exx
 have Hx3 := qH ex3
 have Hcv := qH ecv
 clear hr exx ex3 ecv
 have st0 := St.start Nob w
 go_enter func184, ntmps184
 go_wp2_with (with_reducible refine AA 3 ?_)
 refine aL st0 rfl rfl rfl (cw 4 (elN m x)) rfl ?_
 intro g3 w1 st1
 clear st0
 go_wp2_with (with_reducible refine AA 4 ?_)
 refine aA st1 rfl rfl (z := zAc) Aa (cw 12 0) Af ?_
 intro g4 w2 st2
 clear st1
 go_wp2_with fail
 refine wp_region_noPanic ?_
 refine aE st2 31 [.o 29, .w 0, .w 1, .w 2, .t 3, .w 4, .w 5, .w 6, .t 7, .w 8, .w 9, .w 10, .t 11, .w 12, .w 13, .w 14, .t 15, .t 16, .t 18, .w 20, .w 21, .w 22, .t 23, .c 17, .c 19, .c 24, .c 25, .w 26, .w 27, .w 28, .j 29] (.r 30 (.m 31 .nil)) Aa Aa (fun _ _ _ _ _ h => h) ?_
 clear st2
 refine dK rfl rfl rfl vT (cw 4 0) rfl ?_
 try simp only [J]
 iterate 3 (refine aS rfl rfl apX ?_; try simp only [J])
 refine dA (v := ?_) rfl rfl (fun xq wx hS => ?_) ?_
 rotate_left 1
 ·(have hc := (HCV.out.keep (St.fr hS) id).cell (i := 0) rfl; clear hS; go_simp; with_reducible rfl)
 try simp only [J]
 iterate 3 (refine aS rfl rfl apX ?_; try simp only [J])
 refine dA (v := ?_) rfl rfl (fun xq wx hS => ?_) ?_
 rotate_left 1
 ·(have hc := (HCV.out.keep (St.fr hS) id).cell (i := 0) rfl; clear hS; go_simp; with_reducible rfl)
 try simp only [J]
 iterate 3 (refine aS rfl rfl apX ?_; try simp only [J])
 refine dA (v := ?_) rfl rfl (fun xq wx hS => ?_) ?_
 rotate_left 1
 ·(have hc := (HCV.out.keep (St.fr hS) id).cell (i := 0) rfl; clear hS; go_simp; with_reducible rfl)
 try simp only [J]
 iterate 3 (refine aS rfl rfl apX ?_; try simp only [J])
 refine dA (v := ?_) rfl rfl (fun xq wx hS => ?_) ?_
 rotate_left 1
 ·(have hc := (HCV.out.keep (St.fr hS) id).cell (i := 0) rfl; clear hS; go_simp; with_reducible rfl)
 try simp only [J]
 refine aD rfl rfl rfl (fun _ => rfl) (cw 4 (elN m x)) (fun wx hS => St.rangeL hS 0 rfl 0 _ dZl) underlying66 rfl Aa ?_
 try simp only [J]
 refine aD rfl rfl rfl (fun _ => rfl) (cw 4 (elN m x)) (fun wx hS => St.rangeL hS 0 rfl 0 _ dZl) underlying66 rfl Aa ?_
 try simp only [J]
 iterate 3 (refine aS rfl rfl apX ?_; try simp only [J])
 refine aD rfl rfl rfl (fun _ => rfl) (cw 4 (elN m 7)) (fun wx hS => (HCV.out.keep (St.fr hS) id).range 1 _ (b0z m gp bx by_)) underlying66 rfl Aa ?_
 try simp only [J]
 refine aC rfl rfl rfl call151 (fun w hS hR => eK m gp _ HOK.out (HPM.out.keep hS.fr id) x xx Hxx.out) (fun _ => rfl) ?_
 try simp only [J]
 refine aC rfl rfl rfl call152 (fun w hS hR => fO m gp _ HOK.out (HPM.out.keep hS.fr id) xx x x3 Hx3.out) (fun _ => rfl) ?_
 try simp only [J]
 refine aC rfl rfl rfl call171 (fun w hS hR => jZ m gp _ HOK.out (HPM.out.keep hS.fr id) x3 7 cv Hcv.out) (fun _ => rfl) ?_
 try simp only [J]
 refine aC rfl rfl rfl call198 (fun w hS hR => l0k m gp _ HOK.out (HPM.out.keep hS.fr id) cv HR.out) (fun _ => rfl) ?_
 try simp only [J]
 iterate 3 (refine aS rfl rfl apX ?_; try simp only [J])
 refine dL List.mem_cons_self fun g6 => ?_
 simp only [upd, reduceIte]
 refine bB fun xq w3 st3 hR => ?_
 try dsimp only
 clear hR xq
 refine bC rfl rfl ?_
 refine aG st3 2 rfl rfl rfl rfl Ai Aa (aF _ _) ?_
 intro w4 st4
 repeat (first | simp only [List.cons_append] at st4 | simp only [List.nil_append] at st4 | simp only [List.set_cons_succ] at st4 | simp only [List.set_cons_zero] at st4)
 clear st3
 refine ⟨by first | exact st4 | exact St.less st4 Ae, ?_⟩
 try simp only [Act.put]
 refine aU rfl rfl ?_
 go_simp
 try simp only [J]
 refine aH ?_
 refine NoPanic.normal ?_
 go_wp2_with fail
 refine wp_region_noPanic ?_
 refine aE st4 9 [.t 0, .t 1, .w 2, .w 3, .w 4, .t 5, .w 8, .c 6, .w 7] (.m 9 (.w 10 .nil)) Aa Aa (fun _ _ _ _ _ h => h) ?_
 clear st4
 refine aD rfl rfl rfl (fun _ => rfl) (cw 4 (elN m x)) (fun wx hS => St.rangeL hS 0 rfl 0 _ dZl) underlying66 rfl Aa ?_
 try simp only [J]
 refine aD rfl rfl rfl (fun _ => rfl) (cw 4 (elN m (rtV m.M cv))) (fun wx hS => St.rangeL hS 2 rfl 0 _ dZl) underlying66 rfl Aa ?_
 try simp only [J]
 iterate 3 (refine aS rfl rfl apX ?_; try simp only [J])
 refine dA (v := ?_) rfl rfl (fun xq wx hS => ?_) ?_
 rotate_left 1
 ·(have hc := (HCV.out.keep (St.fr hS) id).cell (i := 0) rfl; clear hS; go_simp; with_reducible rfl)
 try simp only [J]
 refine aS rfl rfl apX ?_
 try simp only [J]
 refine aC rfl rfl rfl call148 (fun w hS hR => lI m gp _ HOK.out (HPM.out.keep hS.fr id)) (fun _ => rfl) ?_
 try simp only [J]
 refine aS rfl rfl (fun _ => cC rfl _ (nE _ _ _)) ?_
 try simp only [J]
 refine bB fun xq w5 st5 hR => ?_
 try dsimp only
 clear hR xq
 refine aU rfl rfl ?_
 refine aG st5 1 rfl rfl rfl rfl Ai Aa (bX _ _ _) ?_
 intro w6 st6
 try simp only [List.set_cons_zero, List.set_cons_succ] at st6
 clear st5
 try simp only [Act.put]
 refine aJ rfl rfl apW ?_
 try simp only [J]
 refine aH ?_
 refine NoPanic.normal ?_
 have hr := st6.at 1 rfl
 have hfr := st6.fr
 clear st6
 go_wp2_with fail
 exact bodyPost_ret (bF rfl rfl hr underlying117 rfl Aa rfl) rfl ⟨by unfold ptV ptL; rfl, hfr⟩
theorem s0E (m : Md) (gc gp bx by_ : Nat) (w : World) (hok : m.Ok) (hcv : Has w gc (nT m gp bx by_) 125) (hpm : Has w gp (mdL m) 187) (x xx x3 cv : Nat) (exx : x * x = xx) (ex3 : xx * x = x3) (ecv : x3 + 7 = cv) (hr : dW m.M cv = false) :
  Calls prog 184 #[.pointer (some ⟨gc, 0, none⟩), i4 (elN m x)] w fun e w' => e = .returned (.tuple #[ptV m x (0) 1, .bool false]) ∧ Fr Nob w w' := by
 have HOK := qH hok
 have HCV := qH hcv
 have HPM := qH hpm
 clear hok hcv hpm
 have HR := qH hr
 have Hxx := qH exx
 have Hx3 := qH ex3
 have Hcv := qH ecv
 clear hr exx ex3 ecv
 have st0 := St.start Nob w
 go_enter func184, ntmps184
 go_wp2_with (with_reducible refine AA 3 ?_)
 refine aL st0 rfl rfl rfl (cw 4 (elN m x)) rfl ?_
 intro g3 w1 st1
 clear st0
 go_wp2_with (with_reducible refine AA 4 ?_)
 refine aA st1 rfl rfl (z := zAc) Aa (cw 12 0) Af ?_
 intro g4 w2 st2
 clear st1
 go_wp2_with fail
 refine wp_region_noPanic ?_
 refine aE st2 31 [.o 29, .w 0, .w 1, .w 2, .t 3, .w 4, .w 5, .w 6, .t 7, .w 8, .w 9, .w 10, .t 11, .w 12, .w 13, .w 14, .t 15, .t 16, .t 18, .w 20, .w 21, .w 22, .t 23, .c 17, .c 19, .c 24, .c 25, .w 26, .w 27, .w 28, .j 29] (.r 30 (.m 31 .nil)) Aa Aa (fun _ _ _ _ _ h => h) ?_
 clear st2
 refine dK rfl rfl rfl vT (cw 4 0) rfl ?_
 try simp only [J]
 iterate 3 (refine aS rfl rfl apX ?_; try simp only [J])
 refine dA (v := ?_) rfl rfl (fun xq wx hS => ?_) ?_
 rotate_left 1
 ·(have hc := (HCV.out.keep (St.fr hS) id).cell (i := 0) rfl; clear hS; go_simp; with_reducible rfl)
 try simp only [J]
 iterate 3 (refine aS rfl rfl apX ?_; try simp only [J])
 refine dA (v := ?_) rfl rfl (fun xq wx hS => ?_) ?_
 rotate_left 1
 ·(have hc := (HCV.out.keep (St.fr hS) id).cell (i := 0) rfl; clear hS; go_simp; with_reducible rfl)
 try simp only [J]
 iterate 3 (refine aS rfl rfl apX ?_; try simp only [J])
 refine dA (v := ?_) rfl rfl (fun xq wx hS => ?_) ?_
 rotate_left 1
 ·(have hc := (HCV.out.keep (St.fr hS) id).cell (i := 0) rfl; clear hS; go_simp; with_reducible rfl)
 try simp only [J]
 iterate 3 (refine aS rfl rfl apX ?_; try simp only [J])
 refine dA (v := ?_) rfl rfl (fun xq wx hS => ?_) ?_
 rotate_left 1
 ·(have hc := (HCV.out.keep (St.fr hS) id).cell (i := 0) rfl; clear hS; go_simp; with_reducible rfl)
 try simp only [J]
 refine aD rfl rfl rfl (fun _ => rfl) (cw 4 (elN m x)) (fun wx hS => St.rangeL hS 0 rfl 0 _ dZl) underlying66 rfl Aa ?_
 try simp only [J]
 refine aD rfl rfl rfl (fun _ => rfl) (cw 4 (elN m x)) (fun wx hS => St.rangeL hS 0 rfl 0 _ dZl) underlying66 rfl Aa ?_
 try simp only [J]
 iterate 3 (refine aS rfl rfl apX ?_; try simp only [J])
 refine aD rfl rfl rfl (fun _ => rfl) (cw 4 (elN m 7)) (fun wx hS => (HCV.out.keep (St.fr hS) id).range 1 _ (b0z m gp bx by_)) underlying66 rfl Aa ?_
 try simp only [J]
 refine aC rfl rfl rfl call151 (fun w hS hR => eK m gp _ HOK.out (HPM.out.keep hS.fr id) x xx Hxx.out) (fun _ => rfl) ?_
 try simp only [J]
 refine aC rfl rfl rfl call152 (fun w hS hR => fO m gp _ HOK.out (HPM.out.keep hS.fr id) xx x x3 Hx3.out) (fun _ => rfl) ?_
 try simp only [J]
 refine aC rfl rfl rfl call171 (fun w hS hR => jZ m gp _ HOK.out (HPM.out.keep hS.fr id) x3 7 cv Hcv.out) (fun _ => rfl) ?_
 try simp only [J]
 refine aC rfl rfl rfl call198 (fun w hS hR => l0l m gp _ HOK.out (HPM.out.keep hS.fr id) cv HR.out) (fun _ => rfl) ?_
 try simp only [J]
 iterate 3 (refine aS rfl rfl apX ?_; try simp only [J])
 refine dL List.mem_cons_self fun g6 => ?_
 simp only [upd, reduceIte]
 refine bB fun xq w3 st3 hR => ?_
 try dsimp only
 clear hR xq
 refine bC rfl rfl ?_
 refine aG st3 2 rfl rfl rfl rfl Ai Aa (aF _ _) ?_
 intro w4 st4
 repeat (first | simp only [List.cons_append] at st4 | simp only [List.nil_append] at st4 | simp only [List.set_cons_succ] at st4 | simp only [List.set_cons_zero] at st4)
 clear st3
 refine ⟨by first | exact st4 | exact St.less st4 Ae, ?_⟩
 try simp only [Act.put]
 refine aU rfl rfl ?_
 go_simp
 try simp only [J]
 refine aH ?_
 refine NoPanic.normal ?_
 go_wp2_with fail
 refine wp_region_noPanic ?_
 refine aE st4 9 [.t 0, .t 1, .w 2, .w 3, .w 4, .t 5, .w 8, .c 6, .w 7] (.m 9 (.w 10 .nil)) Aa Aa (fun _ _ _ _ _ h => h) ?_
 clear st4
 refine aD rfl rfl rfl (fun _ => rfl) (cw 4 (elN m x)) (fun wx hS => St.rangeL hS 0 rfl 0 _ dZl) underlying66 rfl Aa ?_
 try simp only [J]
 refine aD rfl rfl rfl (fun _ => rfl) (cw 4 0) (fun wx hS => St.rangeL hS 2 rfl 0 _ dZl) underlying66 rfl Aa ?_
 try simp only [J]
 iterate 3 (refine aS rfl rfl apX ?_; try simp only [J])
 refine dA (v := ?_) rfl rfl (fun xq wx hS => ?_) ?_
 rotate_left 1
 ·(have hc := (HCV.out.keep (St.fr hS) id).cell (i := 0) rfl; clear hS; go_simp; with_reducible rfl)
 try simp only [J]
 refine aS rfl rfl apX ?_
 try simp only [J]
 refine aC rfl rfl rfl call148 (fun w hS hR => lI m gp _ HOK.out (HPM.out.keep hS.fr id)) (fun _ => rfl) ?_
 try simp only [J]
 refine aS rfl rfl (fun _ => cC rfl _ (nE _ _ _)) ?_
 try simp only [J]
 refine bB fun xq w5 st5 hR => ?_
 try dsimp only
 clear hR xq
 refine aU rfl rfl ?_
 refine aG st5 1 rfl rfl rfl rfl Ai Aa (bX _ _ _) ?_
 intro w6 st6
 try simp only [List.set_cons_zero, List.set_cons_succ] at st6
 clear st5
 try simp only [Act.put]
 refine aJ rfl rfl apW ?_
 try simp only [J]
 refine aH ?_
 refine NoPanic.normal ?_
 have hr := st6.at 1 rfl
 have hfr := st6.fr
 clear st6
 go_wp2_with fail
 exact bodyPost_ret (bF rfl rfl hr underlying117 rfl Aa rfl) rfl ⟨by unfold ptV ptL; rw [kE]; rfl, hfr⟩
end
end Go.Proofs.YtemcankmggmgoaaGreat
namespace Mvq
def IsP (p : Nat) : Prop := 1 < p ∧ ∀ d, d ∣ p → d = 1 ∨ d = p
def chk (n : Nat) : Nat → Nat → Bool
 | 0, lo => n % lo != 0
 | k + 1, lo => chk n k lo && chk n k (lo + 2 ^ k)
theorem uL (n : Nat) : ∀ (k lo : Nat), chk n k lo = true → ∀ d, lo ≤ d → d < lo + 2 ^ k → n % d ≠ 0
 | 0, lo, h, d, h1, h2 => by
  have : d = lo := by simp at h2; omega
  subst this; simpa [chk] using h
 | k + 1, lo, h, d, h1, h2 => by
  simp only [chk, Bool.and_eq_true] at h
  rw [Nat.pow_succ] at h2
  by_cases hd : d < lo + 2 ^ k
  ·exact uL n k lo h.1 d h1 hd
  ·exact uL n k _ h.2 d Ab Ab
theorem iH (n k : Nat) (h1 : 1 < n) (hc : chk n k 2 = true) (hn : n < (2 + 2 ^ k) * (2 + 2 ^ k)) : IsP n := by
 refine ⟨h1, fun d hd => ?_⟩
 obtain ⟨e, he⟩ := hd
 have key : ∀ x, 2 ≤ x → x < 2 + 2 ^ k → ¬ x ∣ n := fun x a b hx => uL n k 2 hc x a b (Nat.mod_eq_zero_of_dvd hx)
 by_cases d1 : d = 1
 ·exact Or.inl d1
 by_cases e1 : e = 1
 ·right; subst e1; omega
 have d0 : d ≠ 0 := by intro h; subst h; omega
 have e0 : e ≠ 0 := by intro h; subst h; omega
 exfalso
 by_cases hde : d < 2 + 2 ^ k
 ·exact key d Ab hde ⟨e, he⟩
 ·by_cases hee : e < 2 + 2 ^ k
  ·exact key e Ab hee ⟨d, by rw [Nat.mul_comm]; exact he⟩
  ·have : (2 + 2 ^ k) * (2 + 2 ^ k) ≤ d * e := Nat.mul_le_mul Ab Ab
   omega
theorem IsP.cop {p a : Nat} (hp : IsP p) (ha : ¬ p ∣ a) : Nat.Coprime p a := by
 rcases hp.2 (Nat.gcd p a) (Nat.gcd_dvd_left p a) with h | h
 ·exact h
 ·exact absurd (h ▸ Nat.gcd_dvd_right p a) ha
theorem IsP.euclid {p a b : Nat} (hp : IsP p) (h : p ∣ a * b) : p ∣ a ∨ p ∣ b := by
 by_cases ha : p ∣ a
 ·exact Or.inl ha
 ·exact Or.inr ((hp.cop ha).dvd_of_dvd_mul_left h)
def ch : Nat → Nat → Nat
 | _, 0 => 1
 | 0, _ + 1 => 0
 | n + 1, k + 1 => ch n k + ch n (k + 1)
theorem zR (n : Nat) : ch n 0 = 1 := by cases n <;> rfl
theorem xI : ∀ (n k : Nat), n < k → ch n k = 0
 | 0, 0, h => by omega
 | 0, _ + 1, _ => rfl
 | n + 1, 0, h => by omega
 | n + 1, k + 1, h => by rw [ch, xI n k Ab, xI n (k + 1) Ab]
theorem i0t : ∀ n : Nat, ch n n = 1
 | 0 => rfl
 | n + 1 => by rw [ch, i0t n, xI n (n + 1) Ab]
theorem pN : ∀ (n k : Nat), (k + 1) * ch (n + 1) (k + 1) = (n + 1) * ch n k
 | 0, 0 => rfl
 | 0, k + 1 => by rw [xI (0 + 1) (k + 1 + 1) Ab, xI 0 (k + 1) Ab]; simp
 | n + 1, 0 => by
  have h := pN n 0
  have e : ch (n + 1 + 1) (0 + 1) = ch (n + 1) 0 + ch (n + 1) (0 + 1) := rfl
  rw [e, zR]
  rw [zR] at h
  omega
 | n + 1, k + 1 => by
  have h1 := pN n k
  have h2 := pN n (k + 1)
  have e : ch (n + 1 + 1) (k + 1 + 1) = ch (n + 1) (k + 1) + ch (n + 1) (k + 1 + 1) := rfl
  have e2 : ch (n + 1) (k + 1) = ch n k + ch n (k + 1) := rfl
  rw [e, Nat.mul_add]
  have h3 : (k + 1 + 1) * ch (n + 1) (k + 1) = (n + 1) * ch n k + ch (n + 1) (k + 1) := by rw [← h1, Nat.succ_mul]
  rw [h3, h2, Nat.succ_mul (n + 1)]
  have : (n + 1) * ch (n + 1) (k + 1) = (n + 1) * ch n k + (n + 1) * ch n (k + 1) := by rw [e2, Nat.mul_add]
  omega
def gV : Nat → (Nat → Nat) → Nat
 | 0, _ => 0
 | n + 1, f => gV n f + f n
theorem lL (f : Nat → Nat) : ∀ n, gV (n + 1) f = f 0 + gV n (fun k => f (k + 1))
 | 0 => by simp [gV]
 | n + 1 => by rw [gV, lL f n]; simp only [gV]; omega
theorem b0D (f g : Nat → Nat) : ∀ n, gV n (fun k => f k + g k) = gV n f + gV n g
 | 0 => rfl
 | n + 1 => by simp only [gV]; rw [b0D f g n]; omega
theorem b0E (f : Nat → Nat) (a : Nat) : ∀ n, gV n (fun k => f k * a) = gV n f * a
 | 0 => by simp [gV]
 | n + 1 => by simp only [gV]; rw [b0E f a n, Nat.add_mul]
theorem uM (f g : Nat → Nat) : ∀ n, (∀ k, k < n → f k = g k) → gV n f = gV n g
 | 0, _ => rfl
 | n + 1, h => by simp only [gV]; rw [uM f g n (fun k hk => h k Ab), h n Ab]
theorem b0F (f : Nat → Nat) (p : Nat) : ∀ n, (∀ k, k < n → p ∣ f k) → p ∣ gV n f
 | 0, _ => ⟨0, rfl⟩
 | n + 1, h => Nat.dvd_add (b0F f p n (fun k hk => h k Ab)) (h n Ab)
theorem q0L (a : Nat) : ∀ n, (a + 1) ^ n = gV (n + 1) (fun k => ch n k * a ^ k)
 | 0 => by simp [gV, ch]
 | n + 1 => by
  rw [Nat.pow_succ, Nat.mul_add, Nat.mul_one, q0L a n]
  rw [lL (fun k => ch (n + 1) k * a ^ k) (n + 1)]
  have e : gV (n + 1) (fun k => ch (n + 1) (k + 1) * a ^ (k + 1)) = gV (n + 1) (fun k => ch n k * a ^ k * a) + gV (n + 1) (fun k => ch n (k + 1) * a ^ (k + 1)) := by
   rw [← b0D]
   refine uM _ _ _ fun k _ => ?_
   rw [show ch (n + 1) (k + 1) = ch n k + ch n (k + 1) from rfl, Nat.add_mul, Nat.pow_succ, Nat.mul_assoc]
  have e2 := lL (fun k => ch n k * a ^ k) (n + 1)
  have e3 : gV (n + 1 + 1) (fun k => ch n k * a ^ k) = gV (n + 1) (fun k => ch n k * a ^ k) := by
   rw [gV, xI n (n + 1) Ab, Nat.zero_mul, Nat.add_zero]
  rw [e, b0E]
  simp only [zR, Nat.pow_zero] at e2 ⊢
  omega
theorem q0M {p k : Nat} (hp : IsP p) (h0 : 0 < k) (hk : k < p) : p ∣ ch p k := by
 obtain ⟨q, rfl⟩ : ∃ q, p = q + 1 := ⟨p - 1, by have := hp.1; omega⟩
 obtain ⟨j, rfl⟩ : ∃ j, k = j + 1 := ⟨k - 1, by omega⟩
 have h := pN q j
 have hd : (q + 1) ∣ (j + 1) * ch (q + 1) (j + 1) := ⟨_, h⟩
 rcases hp.euclid hd with h1 | h1
 ·exact absurd (Nat.le_of_dvd Ab h1) Ab
 ·exact h1
theorem t0u {p : Nat} (hp : IsP p) (a : Nat) : (a + 1) ^ p % p = (a ^ p + 1) % p := by
 obtain ⟨q, rfl⟩ : ∃ q, p = q + 1 := ⟨p - 1, by have := hp.1; omega⟩
 rw [q0L, gV, i0t, Nat.one_mul, lL]
 obtain ⟨c, hc⟩ := b0F (fun k => ch (q + 1) (k + 1) * a ^ (k + 1)) (q + 1) q (fun k hk => Nat.dvd_trans (q0M hp Ab Ab) (Nat.dvd_mul_right _ _))
 rw [hc, zR, Nat.pow_zero, Nat.one_mul]
 rw [show 1 + (q + 1) * c + a ^ (q + 1) = a ^ (q + 1) + 1 + (q + 1) * c by omega, Nat.add_mul_mod_self_left]
theorem c0Z {p : Nat} (hp : IsP p) : ∀ a, a ^ p % p = a % p
 | 0 => by rw [Nat.zero_pow (by have := hp.1; omega)]
 | a + 1 => by rw [t0u hp, Nat.add_mod, c0Z hp a, ← Nat.add_mod]
theorem q0N {p a x y : Nat} (hp : IsP p) (ha : ¬ p ∣ a) (h : a * x % p = a * y % p) : x % p = y % p := by
 have key : ∀ x y, x ≤ y → a * x % p = a * y % p → x % p = y % p := by
  intro x y hxy h
  have hd : p ∣ a * (y - x) := by
   have := Nat.sub_mod_eq_zero_of_mod_eq h.symm
   rw [← Nat.mul_sub] at this
   exact Nat.dvd_of_mod_eq_zero this
  obtain ⟨c, hc⟩ := (hp.euclid hd).resolve_left ha
  rw [show y = x + p * c by omega, Nat.add_mul_mod_self_left]
 rcases Nat.le_total x y with h1 | h1
 ·exact key x y h1 h
 ·exact (key y x h1 h.symm).symm
theorem e0E {p a : Nat} (hp : IsP p) (ha : ¬ p ∣ a) : a ^ (p - 1) % p = 1 := by
 have h1 : 1 % p = 1 := Nat.mod_eq_of_lt hp.1
 have h2 : a ^ (p - 1) % p = 1 % p := by
  refine q0N hp ha ?_
  rw [Nat.mul_one, Nat.mul_comm, ← Nat.pow_succ, show (p - 1).succ = p by have := hp.1; omega]
  exact c0Z hp a
 rw [h2, h1]
def pm (N : Nat) : Nat → Nat → Nat → Nat
 | 0, _, _ => 1 % N
 | k + 1, a, e => if e % 2 = 1 then pm N k (a * a % N) (e / 2) * a % N else pm N k (a * a % N) (e / 2)
theorem l0m (N : Nat) : ∀ k a e, e < 2 ^ k → pm N k a e = a ^ e % N
  | 0, a, e, h => by have : e = 0 := by simp at h; omega
                     subst this; rfl
  | k + 1, a, e, h => by
    have h2 : e / 2 < 2 ^ k := by rw [Nat.pow_succ] at h; omega
    have e1 : pm N k (a * a % N) (e / 2) = a ^ (2 * (e / 2)) % N := by
      rw [l0m N k _ _ h2, ← Nat.pow_mod, ← Nat.pow_two, ← Nat.pow_mul]
    rw [pm, e1]
    split
    · rename_i ho
      rw [Nat.mod_mul_mod, ← Nat.pow_succ]
      congr 2; omega
    · congr 2; omega
theorem uN {N b : Nat} (k : Nat) (h : b % N = 1 % N) : b ^ k % N = 1 % N := by
 rw [Nat.pow_mod, h, ← Nat.pow_mod, Nat.one_pow]
theorem o0w {N b : Nat} (m n : Nat) (hm : b ^ m % N = 1 % N) (hn : b ^ n % N = 1 % N) : b ^ Nat.gcd m n % N = 1 % N := by
 induction m, n using Nat.gcd.induction with
 | H0 n => rw [Nat.gcd_zero_left]; exact hn
 | H1 m n h ih =>
  rw [Nat.gcd_rec]
  refine ih ?_ hm
  have e : b ^ n = b ^ (n % m) * (b ^ m) ^ (n / m) := by
   rw [← Nat.pow_mul, ← Nat.pow_add]; congr 1; have := Nat.mod_add_div n m; omega
  rw [e, Nat.mul_mod, uN (n / m) hm, ← Nat.mul_mod, Nat.mul_one] at hn
  exact hn
theorem s0F {N r a d : Nat} (hr : IsP r) (hd : IsP d) (hdN : d ∣ N) (hN : 1 < N) (hrN : (N - 1) % r = 0)
  (h1 : a ^ (N - 1) % N = 1) (h2 : Nat.gcd (a ^ ((N - 1) / r) % N + (N - 1)) N = 1) : r ∣ d - 1 := by
 refine Classical.byContradiction fun hn => ?_
 have hm1 : ∀ x, x % N = 1 → x % d = 1 % d := fun x hx => by
  obtain ⟨c, hc⟩ := hdN
  have h3 : x % N % d = x % d := Nat.mod_mod_of_dvd x ⟨c, hc⟩
  rw [← h3, hx]
 have hd0 : ¬ d ∣ a := by
  intro h
  have h3 := hm1 _ h1
  have hpw : a ∣ a ^ (N - 1) := by
   obtain ⟨k, hk⟩ : ∃ k, N - 1 = k + 1 := ⟨N - 2, by omega⟩
   rw [hk, Nat.pow_succ]; exact Nat.dvd_mul_left _ _
  have h4 : a ^ (N - 1) % d = 0 := Nat.mod_eq_zero_of_dvd (Nat.dvd_trans h hpw)
  rw [h4, Nat.mod_eq_of_lt hd.1] at h3
  omega
 have e1 : (a ^ ((N - 1) / r)) ^ r % d = 1 % d := by
  rw [← Nat.pow_mul, Nat.div_mul_cancel (Nat.dvd_of_mod_eq_zero hrN)]
  exact hm1 _ h1
 have e2 : (a ^ ((N - 1) / r)) ^ (d - 1) % d = 1 % d := by
  rw [← Nat.pow_mul, Nat.mul_comm, Nat.pow_mul]
  exact uN _ (by rw [e0E hd hd0, Nat.mod_eq_of_lt hd.1])
 have e3 := o0w _ _ e1 e2
 rw [show Nat.gcd r (d - 1) = 1 from hr.cop hn, Nat.pow_one] at e3
 have e4 : d ∣ a ^ ((N - 1) / r) % N + (N - 1) := by
  refine Nat.dvd_of_mod_eq_zero ?_
  have e5 : (a ^ ((N - 1) / r) % N) % d = 1 % d := by rw [Nat.mod_mod_of_dvd _ hdN]; exact e3
  rw [Nat.add_mod, e5, ← Nat.add_mod, show 1 + (N - 1) = N by omega]
  exact Nat.mod_eq_zero_of_dvd hdN
 have e6 : d ∣ 1 := by rw [← h2]; exact Nat.dvd_gcd e4 hdN
 have := Nat.le_of_dvd Ab e6
 have := hd.1
 omega
theorem rI : ∀ (n : Nat), 1 < n → ∃ d, IsP d ∧ d ∣ n := by
 intro n
 induction n using Nat.strongRecOn with
 | _ n ih =>
  intro h
  by_cases hp : IsP n
  ·exact ⟨n, hp, Nat.dvd_refl n⟩
  ·have : ∃ d, d ∣ n ∧ d ≠ 1 ∧ d ≠ n := by
    refine Classical.byContradiction fun hn => hp ⟨h, fun d hd => ?_⟩
    by_cases d1 : d = 1
    ·exact Or.inl d1
    ·exact Or.inr (Classical.byContradiction fun d2 => hn ⟨d, hd, d1, d2⟩)
   obtain ⟨d, hd, d1, d2⟩ := this
   have hle := Nat.le_of_dvd Ab hd
   have d0 : d ≠ 0 := by intro h0; subst h0; have := Nat.eq_zero_of_zero_dvd hd; omega
   obtain ⟨e, he, hed⟩ := ih d Ab Ab
   exact ⟨e, he, Nat.dvd_trans hed hd⟩
theorem d0a {N : Nat} (h : 1 < N) (hn : ¬ IsP N) : ∃ d, IsP d ∧ d ∣ N ∧ d * d ≤ N := by
 have : ∃ d, d ∣ N ∧ d ≠ 1 ∧ d ≠ N := by
  refine Classical.byContradiction fun hx => hn ⟨h, fun d hd => ?_⟩
  by_cases d1 : d = 1
  ·exact Or.inl d1
  ·exact Or.inr (Classical.byContradiction fun d2 => hx ⟨d, hd, d1, d2⟩)
 obtain ⟨d, ⟨e, he⟩, d1, d2⟩ := this
 have d0 : d ≠ 0 := by intro h0; subst h0; omega
 have e0 : e ≠ 0 := by intro h0; subst h0; omega
 have e1 : e ≠ 1 := by intro h0; subst h0; omega
 rcases Nat.le_total d e with hde | hde
 ·obtain ⟨f, hf, hfd⟩ := rI d Ab
  refine ⟨f, hf, Nat.dvd_trans hfd ⟨e, he⟩, ?_⟩
  have hle := Nat.le_of_dvd Ab hfd
  rw [he]
  exact Nat.mul_le_mul hle Ab
 ·obtain ⟨f, hf, hfd⟩ := rI e Ab
  refine ⟨f, hf, Nat.dvd_trans hfd ⟨d, by rw [Nat.mul_comm]; exact he⟩, ?_⟩
  have hle := Nat.le_of_dvd Ab hfd
  rw [he]
  exact Nat.mul_le_mul Ab hle
def o0x (N k r a : Nat) : Bool := (N - 1) % r == 0 && pm N k a (N - 1) == 1 && Nat.gcd (pm N k a ((N - 1) / r) + (N - 1)) N == 1
theorem l0n {N k r a : Nat} (h1 : 1 < N) (hk : N < 2 ^ k) (h : o0x N k r a = true) : (N - 1) % r = 0 ∧ a ^ (N - 1) % N = 1 ∧ Nat.gcd (a ^ ((N - 1) / r) % N + (N - 1)) N = 1 := by
 simp only [o0x, Bool.and_eq_true, beq_iff_eq] at h
 rw [l0m N k a (N - 1) Ab, l0m N k a ((N - 1) / r) (by have := Nat.div_le_self (N - 1) r; omega)] at h
 exact ⟨h.1.1, h.1.2, h.2⟩
def vY : List Nat → Nat
 | [] => 1
 | r :: l => r * vY l
theorem b0G {x : Nat} : ∀ (l : List Nat), (∀ r, r ∈ l → IsP r) → l.Nodup → (∀ r, r ∈ l → r ∣ x) → vY l ∣ x
 | [], _, _, _ => Nat.one_dvd _
 | r :: l, hp, hn, hd => by
  rw [List.nodup_cons] at hn
  have ih := b0G l (fun r hr => hp r (by simp [hr])) hn.2 (fun r hr => hd r (by simp [hr]))
  have hr := hp r Ae
  have hc : Nat.Coprime r (vY l) := by
   refine hr.cop fun hx => ?_
   have : ∀ (l : List Nat), (∀ q, q ∈ l → IsP q) → r ∣ vY l → r ∈ l := by
    intro l
    induction l with
    | nil => intro _ h; have := Nat.le_of_dvd Ac h; have := hr.1; simp [vY] at *; omega
    | cons q l ih2 =>
     intro hq h
     rcases hr.euclid h with h1 | h1
     ·rcases (hq q Ae).2 r h1 with h2 | h2
      ·have := hr.1; omega
      ·simp [h2]
     ·simp [ih2 (fun q hq' => hq q (by simp [hq'])) h1]
   exact hn.1 (this l (fun r hr => hp r (by simp [hr])) hx)
  exact hc.mul_dvd_of_dvd_of_dvd (hd r Ae) ih
theorem lM (N k : Nat) (l : List (Nat × Nat)) (h1 : 1 < N) (hk : N < 2 ^ k) (hp : ∀ x, x ∈ l → IsP x.1) (hn : (l.map (·.1)).Nodup)
  (hs : l.all (fun x => o0x N k x.1 x.2) = true) (hbig : N < vY (l.map (·.1)) * vY (l.map (·.1))) : IsP N := by
 refine Classical.byContradiction fun hno => ?_
 obtain ⟨d, hd, hdN, hdd⟩ := d0a h1 hno
 have hx : vY (l.map (·.1)) ∣ d - 1 := by
  refine b0G _ (fun r hr => ?_) hn (fun r hr => ?_)
  ·obtain ⟨x, hx, rfl⟩ := List.mem_map.1 hr; exact hp x hx
  ·obtain ⟨x, hx, rfl⟩ := List.mem_map.1 hr
   have hst := l0n h1 hk (List.all_eq_true.1 hs x hx)
   exact s0F (hp x hx) hd hdN h1 hst.1 hst.2.1 hst.2.2
 have hle := Nat.le_of_dvd (by have := hd.1; omega) hx
 have : vY (l.map (·.1)) * vY (l.map (·.1)) ≤ d * d := Nat.mul_le_mul Ab Ab
 omega
end Mvq
namespace Mvq
theorem vZ : IsP 107590001 := iH 107590001 14 Ac An Ac
theorem b0H : IsP 7240687 := iH 7240687 12 Ac An Ac
theorem g0h : IsP 96557 := iH 96557 9 Ac An Ac
theorem eN : IsP 255515944373312847190720520512484175977 := by
 refine lM 255515944373312847190720520512484175977 128 [(107590001, 2), (7240687, 2), (96557, 2)] Ac Ac (fun x hx => ?_) Ac An An
 simp only [List.mem_cons, List.not_mem_nil, or_false] at hx
 rcases hx with rfl | rfl | rfl
 ·exact vZ
 ·exact b0H
 ·exact g0h
theorem bZ : IsP 205115282021455665897114700593932402728804164701536103180137503955397371 := by
 refine lM 205115282021455665897114700593932402728804164701536103180137503955397371 237 [(255515944373312847190720520512484175977, 2)] Ac Ac (fun x hx => ?_) Ac An An
 simp only [List.mem_cons, List.not_mem_nil, or_false] at hx
 subst hx
 ·exact eN
theorem m0Y : IsP 115792089237316195423570985008687907853269984665640564039457584007908834671663 := by
 refine lM 115792089237316195423570985008687907853269984665640564039457584007908834671663 256 [(205115282021455665897114700593932402728804164701536103180137503955397371, 2)] Ac Ac (fun x hx => ?_) Ac An An
 simp only [List.mem_cons, List.not_mem_nil, or_false] at hx
 subst hx
 ·exact bZ
theorem wD : IsP 545358713 := iH 545358713 15 Ac An Ac
theorem d0b : IsP 305873 := iH 305873 10 Ac An Ac
theorem l0o : IsP 293 := iH 293 4 Ac An Ac
theorem gF : IsP 29047611873442575647497758179 := by
 refine lM 29047611873442575647497758179 95 [(545358713, 2), (305873, 2), (293, 2)] Ac Ac (fun x hx => ?_) Ac An An
 simp only [List.mem_cons, List.not_mem_nil, or_false] at hx
 rcases hx with rfl | rfl | rfl
 ·exact wD
 ·exact d0b
 ·exact l0o
theorem fL : IsP 341948486974166000522343609283189 := by
 refine lM 341948486974166000522343609283189 109 [(29047611873442575647497758179, 2)] Ac Ac (fun x hx => ?_) Ac An An
 simp only [List.mem_cons, List.not_mem_nil, or_false] at hx
 subst hx
 ·exact gF
theorem zS : IsP 44706919 := iH 44706919 13 Ac An Ac
theorem d0c : IsP 120233 := iH 120233 9 Ac An Ac
theorem jU : IsP 174723607534414371449 := by
 refine lM 174723607534414371449 68 [(44706919, 2), (120233, 2)] Ac Ac (fun x hx => ?_) Ac An An
 simp only [List.mem_cons, List.not_mem_nil, or_false] at hx
 rcases hx with rfl | rfl
 ·exact zS
 ·exact d0c
theorem q0O : IsP 115792089237316195423570985008687907852837564279074904382605163141518161494337 := by
 refine lM 115792089237316195423570985008687907852837564279074904382605163141518161494337 256 [(341948486974166000522343609283189, 2), (174723607534414371449, 2)] Ac Ac (fun x hx => ?_) Ac An An
 simp only [List.mem_cons, List.not_mem_nil, or_false] at hx
 rcases hx with rfl | rfl
 ·exact fL
 ·exact jU
end Mvq
namespace Mvq
abbrev fP : Nat := 115792089237316195423570985008687907853269984665640564039457584007908834671663
instance : NeZero fP := ⟨by decide⟩
abbrev K := Fin fP
def kc (n : Nat) : K := Fin.ofNat fP n
theorem m0Z (a b : Nat) : kc ((a + b) % fP) = kc a + kc b := by
 apply Fin.ext; simp [kc, Fin.ofNat, Fin.val_add]
theorem n0a (a b : Nat) : kc (a * b % fP) = kc a * kc b := by
 apply Fin.ext; simp [kc, Fin.ofNat, Fin.val_mul]
abbrev Pl := List (Nat × Nat)
def mo (x1 x2 x3 : K) (k : Nat) : K := x1 ^ (k % 1048576) * x2 ^ (k / 1048576 % 1048576) * x3 ^ (k / 1048576 / 1048576)
def g0i (d k : Nat) : Prop := k % 1048576 ≤ d ∧ k / 1048576 % 1048576 ≤ d ∧ k / 1048576 / 1048576 ≤ d
theorem b0I (x : K) (a b : Nat) : x ^ (a + b) = x ^ a * x ^ b := by
 induction b with
 | zero => simp only [Nat.add_zero]; grind -lia -linarith
 | succ b ih => rw [← Nat.add_assoc]; grind -lia -linarith
theorem q0P {d e k l : Nat} (hk : g0i d k) (hl : g0i e l) (h : d + e < 1048576) (x1 x2 x3 : K) : mo x1 x2 x3 (k + l) = mo x1 x2 x3 k * mo x1 x2 x3 l ∧ g0i (d + e) (k + l) := by
 obtain ⟨k1, k2, k3⟩ := hk
 obtain ⟨l1, l2, l3⟩ := hl
 have e1 : (k + l) % 1048576 = k % 1048576 + l % 1048576 := by omega
 have e2 : (k + l) / 1048576 = k / 1048576 + l / 1048576 := by omega
 have e3 : (k / 1048576 + l / 1048576) % 1048576 = k / 1048576 % 1048576 + l / 1048576 % 1048576 := by omega
 have e4 : (k / 1048576 + l / 1048576) / 1048576 = k / 1048576 / 1048576 + l / 1048576 / 1048576 := by omega
 constructor
 ·unfold mo
  rw [e1, e2, e3, e4]
  generalize k % 1048576 = a1; generalize l % 1048576 = b1; generalize k / 1048576 % 1048576 = a2; generalize l / 1048576 % 1048576 = b2; generalize k / 1048576 / 1048576 = a3; generalize l / 1048576 / 1048576 = b3
  rw [b0I, b0I, b0I]
  generalize x1 ^ a1 = u1; generalize x1 ^ b1 = v1; generalize x2 ^ a2 = u2; generalize x2 ^ b2 = v2; generalize x3 ^ a3 = u3; generalize x3 ^ b3 = v3
  grind -lia -linarith
 ·unfold g0i
  rw [e1, e2, e3, e4]; omega
def plv (x1 x2 x3 : K) : Pl → K
 | [] => 0
 | (k, c) :: l => kc c * mo x1 x2 x3 k + plv x1 x2 x3 l
def PBd (d : Nat) (a : Pl) : Prop := ∀ t ∈ a, g0i d t.1
def qS : Nat → Pl → Pl → Pl
 | 0, a, b => a ++ b
 | _ + 1, [], b => b
 | _ + 1, a, [] => a
 | n + 1, (k, c) :: a, (l, d) :: b => match Nat.blt k l with
  | true => (k, c) :: qS n a ((l, d) :: b)
  | false => match Nat.blt l k with
   | true => (l, d) :: qS n ((k, c) :: a) b
   | false => (k, (c + d) % fP) :: qS n a b
theorem o0y (x1 x2 x3 : K) (a b : Pl) : plv x1 x2 x3 (a ++ b) = plv x1 x2 x3 a + plv x1 x2 x3 b := by
 induction a with
 | nil => simp only [List.nil_append, plv]; grind -lia -linarith
 | cons t a ih =>
  obtain ⟨k, c⟩ := t
  simp only [List.cons_append, plv, ih]; grind -lia -linarith
theorem pO (x1 x2 x3 : K) : ∀ (n : Nat) (a b : Pl), plv x1 x2 x3 (qS n a b) = plv x1 x2 x3 a + plv x1 x2 x3 b
 | 0, a, b => o0y x1 x2 x3 a b
 | n + 1, [], b => by simp only [qS, plv]; grind -lia -linarith
 | n + 1, t :: a, [] => by simp only [qS, plv]; grind -lia -linarith
 | n + 1, (k, c) :: a, (l, d) :: b => by
  have h1 := pO x1 x2 x3 n a ((l, d) :: b)
  have h2 := pO x1 x2 x3 n ((k, c) :: a) b
  have h3 := pO x1 x2 x3 n a b
  simp only [qS]
  split
  ·simp only [plv] at *; grind -lia -linarith
  ·rename_i e1
   split
   ·simp only [plv] at *; grind -lia -linarith
   ·rename_i e2
    have hkl : k = l := by
     have : ¬ k < l := fun h => by rw [← Nat.blt_eq, e1] at h; cases h
     have : ¬ l < k := fun h => by rw [← Nat.blt_eq, e2] at h; cases h
     omega
    subst hkl
    simp only [plv, m0Z, h3]
    generalize mo x1 x2 x3 k = m
    generalize kc c = u
    generalize kc d = v
    grind -lia -linarith
theorem pR (d : Nat) : ∀ (n : Nat) (a b : Pl), PBd d a → PBd d b → PBd d (qS n a b)
 | 0, a, b, ha, hb => fun t ht => by
  rcases List.mem_append.1 ht with h | h
  ·exact ha t h
  ·exact hb t h
 | n + 1, [], b, _, hb => by simpa only [qS] using hb
 | n + 1, t :: a, [], ha, _ => by simpa only [qS] using ha
 | n + 1, (k, c) :: a, (l, e) :: b, ha, hb => by
  have ha' : PBd d a := fun t ht => ha t (List.mem_cons_of_mem _ ht)
  have hb' : PBd d b := fun t ht => hb t (List.mem_cons_of_mem _ ht)
  simp only [qS]
  split
  ·intro t ht
   rcases List.mem_cons.1 ht with h | h
   ·subst h; exact ha (k, c) Ae
   ·exact pR d n a _ ha' hb t h
  ·split
   ·intro t ht
    rcases List.mem_cons.1 ht with h | h
    ·subst h; exact hb (l, e) Ae
    ·exact pR d n _ b ha hb' t h
   ·intro t ht
    rcases List.mem_cons.1 ht with h | h
    ·subst h; exact ha (k, c) Ae
    ·exact pR d n a b ha' hb' t h
def rJ (k c : Nat) : Pl → Pl
 | [] => []
 | (l, d) :: b => (k + l, c * d % fP) :: rJ k c b
theorem b0J (x1 x2 x3 : K) {d e k : Nat} (c : Nat) (hk : g0i d k) (h : d + e < 1048576) : ∀ (b : Pl), PBd e b → plv x1 x2 x3 (rJ k c b) = kc c * mo x1 x2 x3 k * plv x1 x2 x3 b ∧ PBd (d + e) (rJ k c b)
 | [], _ => by
  refine ⟨?_, fun t ht => absurd ht (by simp [rJ])⟩
  simp only [rJ, plv]; grind -lia -linarith
 | (l, f) :: b, hb => by
  have ih := b0J x1 x2 x3 c hk h b (fun t ht => hb t (List.mem_cons_of_mem _ ht))
  have hm := q0P hk (hb (l, f) Ae) h x1 x2 x3
  refine ⟨?_, fun t ht => ?_⟩
  ·simp only [rJ, plv, n0a, ih.1, hm.1]
   generalize mo x1 x2 x3 k = m; generalize mo x1 x2 x3 l = m2; generalize kc c = u; generalize kc f = v; generalize plv x1 x2 x3 b = q
   grind -lia -linarith
  ·simp only [rJ] at ht
   rcases List.mem_cons.1 ht with h1 | h1
   ·subst h1; exact hm.2
   ·exact ih.2 t h1
def d0d : Pl → Pl → Pl
 | [], _ => []
 | (k, c) :: a, b => qS 100000 (rJ k c b) (d0d a b)
theorem e0F (x1 x2 x3 : K) {d e : Nat} (h : d + e < 1048576) : ∀ (a b : Pl), PBd d a → PBd e b → plv x1 x2 x3 (d0d a b) = plv x1 x2 x3 a * plv x1 x2 x3 b ∧ PBd (d + e) (d0d a b)
 | [], b, _, _ => by
  refine ⟨?_, fun t ht => absurd ht (by simp [d0d])⟩
  simp only [d0d, plv]; grind -lia -linarith
 | (k, c) :: a, b, ha, hb => by
  have ih := e0F x1 x2 x3 h a b (fun t ht => ha t (List.mem_cons_of_mem _ ht)) hb
  have ht := b0J x1 x2 x3 c (ha (k, c) Ae) h b hb
  refine ⟨?_, pR _ _ _ _ ht.2 ih.2⟩
  simp only [d0d, pO, plv, ht.1, ih.1]
  grind -lia -linarith
theorem PBd.mono {d e : Nat} {a : Pl} (h : PBd d a) (hd : d ≤ e) : PBd e a := fun t ht => by
 obtain ⟨h1, h2, h3⟩ := h t ht
 exact ⟨by omega, by omega, by omega⟩
structure Ops (α : Type) where
 add : α → α → α
 mul : α → α → α
structure Snd {α : Type} (o : Ops α) (val : α → K) (Bd : Nat → α → Prop) (c : Nat) : Prop where
 add : ∀ a b, val (o.add a b) = val a + val b
 addB : ∀ d a b, Bd d a → Bd d b → Bd d (o.add a b)
 mul : ∀ d e a b, Bd d a → Bd e b → d + e + c < 1048576 → val (o.mul a b) = val a * val b ∧ Bd (d + e + c) (o.mul a b)
 mono : ∀ d e a, Bd d a → d ≤ e → Bd e a
def q0Q : Ops Pl := ⟨qS 100000, d0d⟩
theorem s0G (x1 x2 x3 : K) : Snd q0Q (plv x1 x2 x3) PBd 0 :=
 ⟨fun a b => pO x1 x2 x3 _ a b, fun d a b ha hb => pR d _ a b ha hb, fun d e a b ha hb h => e0F x1 x2 x3 (d := d) (e := e) h a b ha hb, fun _ _ _ h hd => h.mono hd⟩
def g0j {α : Type} (o : Ops α) (f : α) : Ops (α × α) :=
 ⟨fun p q => (o.add p.1 q.1, o.add p.2 q.2), fun p q => (o.add (o.mul p.1 q.1) (o.mul (o.mul p.2 q.2) f), o.add (o.mul p.1 q.2) (o.mul p.2 q.1))⟩
def lU {α : Type} (val : α → K) (y : K) (p : α × α) : K := val p.1 + val p.2 * y
def o0z {α : Type} (Bd : Nat → α → Prop) (d : Nat) (p : α × α) : Prop := Bd d p.1 ∧ Bd d p.2
theorem o0A {α : Type} {o : Ops α} {val : α → K} {Bd : Nat → α → Prop} {c : Nat} (h : Snd o val Bd c) (f : α) (y : K) (hy : y * y = val f) (hf : Bd 3 f) : Snd (g0j o f) (lU val y) (o0z Bd) (c + c + 3) := by
 refine ⟨fun a b => ?_, fun d a b ha hb => ⟨h.addB _ _ _ ha.1 hb.1, h.addB _ _ _ ha.2 hb.2⟩, fun d e a b ha hb hd => ?_, fun d e a ha hd => ⟨h.mono _ _ _ ha.1 hd, h.mono _ _ _ ha.2 hd⟩⟩
 ·simp only [lU, g0j, h.add]; grind -lia -linarith
 ·have m11 := h.mul d e a.1 b.1 ha.1 hb.1 Ab
  have m22 := h.mul d e a.2 b.2 ha.2 hb.2 Ab
  have m12 := h.mul d e a.1 b.2 ha.1 hb.2 Ab
  have m21 := h.mul d e a.2 b.1 ha.2 hb.1 Ab
  have mf := h.mul _ 3 _ f m22.2 hf Ab
  refine ⟨?_, h.addB _ _ _ (h.mono _ _ _ m11.2 Ab) (h.mono _ _ _ mf.2 Ab), h.addB _ _ _ (h.mono _ _ _ m12.2 Ab) (h.mono _ _ _ m21.2 Ab)⟩
  simp only [lU, g0j, h.add, m11.1, m12.1, m21.1, mf.1, m22.1, ← hy]
  grind -lia -linarith
end Mvq
namespace Mvq
def fPl (i : Nat) : Pl := [(0, 7), (3 * i, 1)]
abbrev T3 := ((Pl × Pl) × (Pl × Pl)) × ((Pl × Pl) × (Pl × Pl))
def o1 : Ops (Pl × Pl) := g0j q0Q (fPl 1)
def o2 : Ops ((Pl × Pl) × (Pl × Pl)) := g0j o1 (fPl 1048576, [])
def o3 : Ops T3 := g0j o2 ((fPl 1099511627776, []), ([], []))
def v3 (x1 x2 x3 y1 y2 y3 : K) : T3 → K := lU (lU (lU (plv x1 x2 x3) y1) y2) y3
def b3 : Nat → T3 → Prop := o0z (o0z (o0z PBd))
theorem iR (d : Nat) (a : Pl) (h : (a.all fun t => decide (t.1 % 1048576 ≤ d) && decide (t.1 / 1048576 % 1048576 ≤ d) && decide (t.1 / 1048576 / 1048576 ≤ d)) = true) : PBd d a := fun t ht => by
 have h1 := List.all_eq_true.1 h t ht
 simp only [Bool.and_eq_true, decide_eq_true_eq] at h1
 exact ⟨h1.1.1, h1.1.2, h1.2⟩
theorem kc7 : kc 7 = 7 := by decide
theorem kc1 : kc 1 = 1 := by decide
theorem t0v (x1 x2 x3 y1 y2 y3 : K) (h1 : y1 * y1 = x1 * x1 * x1 + 7) (h2 : y2 * y2 = x2 * x2 * x2 + 7) (h3 : y3 * y3 = x3 * x3 * x3 + 7) : Snd o3 (v3 x1 x2 x3 y1 y2 y3) b3 21 := by
 have s1 : Snd o1 (lU (plv x1 x2 x3) y1) (o0z PBd) 3 := o0A (s0G x1 x2 x3) _ y1 (by
  simp only [fPl, plv, mo, kc7, kc1]
  grind -lia -linarith) (iR _ _ Ac)
 have s2 : Snd o2 (lU (lU (plv x1 x2 x3) y1) y2) (o0z (o0z PBd)) 9 := o0A s1 _ y2 (by
  simp only [fPl, lU, plv, mo, kc7, kc1]
  grind -lia -linarith) ⟨iR _ _ Ac, iR _ _ Ac⟩
 exact o0A s2 _ y3 (by
  simp only [fPl, lU, plv, mo, kc7, kc1]
  grind -lia -linarith) ⟨⟨iR _ _ Ac, iR _ _ Ac⟩, ⟨iR _ _ Ac, iR _ _ Ac⟩⟩
structure Rp (V : T3 → K) (d : Nat) (a : T3) (u : K) : Prop where
 val : V a = u
 bd : b3 d a
section
variable {V : T3 → K} (S : Snd o3 V b3 21)
include S
theorem Rp.add {d e : Nat} {a b : T3} {u v : K} (ha : Rp V d a u) (hb : Rp V e b v) : Rp V (d + e) (o3.add a b) (u + v) :=
 ⟨by rw [S.add, ha.val, hb.val], S.addB _ _ _ (S.mono _ _ _ ha.bd Ab) (S.mono _ _ _ hb.bd Ab)⟩
theorem Rp.mul {d e : Nat} {a b : T3} {u v : K} (ha : Rp V d a u) (hb : Rp V e b v) (h : d + e + 21 < 1048576) : Rp V (d + e + 21) (o3.mul a b) (u * v) := by
 have := S.mul d e a b ha.bd hb.bd h
 exact ⟨by rw [this.1, ha.val, hb.val], this.2⟩
end
def tc (n : Nat) : T3 := ((([(0, n)], []), ([], [])), (([], []), ([], [])))
def cX (X1 Y1 Z1 X2 Y2 Z2 : K) : K := (X1*Y2 + X2*Y1)*(Y1*Y2 + kc (fP - 21)*(Z1*Z2)) + kc (fP - 21)*((Y1*Z2 + Y2*Z1)*(X1*Z2 + X2*Z1))
def cY (X1 Y1 Z1 X2 Y2 Z2 : K) : K := (Y1*Y2 + kc 21*(Z1*Z2))*(Y1*Y2 + kc (fP - 21)*(Z1*Z2)) + kc 63*((X1*X2)*(X1*Z2 + X2*Z1))
def cZ (X1 Y1 Z1 X2 Y2 Z2 : K) : K := (Y1*Z2 + Y2*Z1)*(Y1*Y2 + kc 21*(Z1*Z2)) + kc 3*((X1*X2)*(X1*Y2 + X2*Y1))
def tX (X1 Y1 Z1 X2 Y2 Z2 : T3) : T3 := o3.add (o3.mul (o3.add (o3.mul X1 Y2) (o3.mul X2 Y1)) (o3.add (o3.mul Y1 Y2) (o3.mul (tc (fP - 21)) (o3.mul Z1 Z2)))) (o3.mul (tc (fP - 21)) (o3.mul (o3.add (o3.mul Y1 Z2) (o3.mul Y2 Z1)) (o3.add (o3.mul X1 Z2) (o3.mul X2 Z1))))
def tY (X1 Y1 Z1 X2 Y2 Z2 : T3) : T3 := o3.add (o3.mul (o3.add (o3.mul Y1 Y2) (o3.mul (tc 21) (o3.mul Z1 Z2))) (o3.add (o3.mul Y1 Y2) (o3.mul (tc (fP - 21)) (o3.mul Z1 Z2)))) (o3.mul (tc 63) (o3.mul (o3.mul X1 X2) (o3.add (o3.mul X1 Z2) (o3.mul X2 Z1))))
def tZ (X1 Y1 Z1 X2 Y2 Z2 : T3) : T3 := o3.add (o3.mul (o3.add (o3.mul Y1 Z2) (o3.mul Y2 Z1)) (o3.add (o3.mul Y1 Y2) (o3.mul (tc 21) (o3.mul Z1 Z2)))) (o3.mul (tc 3) (o3.mul (o3.mul X1 X2) (o3.add (o3.mul X1 Y2) (o3.mul X2 Y1))))
section
variable {V : T3 → K} (S : Snd o3 V b3 21) (hc : ∀ n, Rp V 0 (tc n) (kc n))
include S hc
omit hc in
theorem Rp.mono {d e : Nat} {a : T3} {u : K} (ha : Rp V d a u) (h : d ≤ e) : Rp V e a u := ⟨ha.val, S.mono _ _ _ ha.bd h⟩
theorem t_ok {d e : Nat} {A1 B1 C1 A2 B2 C2 : T3} {X1 Y1 Z1 X2 Y2 Z2 : K} (hA1 : Rp V d A1 X1) (hB1 : Rp V d B1 Y1) (hC1 : Rp V d C1 Z1) (hA2 : Rp V e A2 X2) (hB2 : Rp V e B2 Y2) (hC2 : Rp V e C2 Z2) (h : d + e < 10000) :
  Rp V (8 * (d + e) + 300) (tX A1 B1 C1 A2 B2 C2) (cX X1 Y1 Z1 X2 Y2 Z2) ∧ Rp V (8 * (d + e) + 300) (tY A1 B1 C1 A2 B2 C2) (cY X1 Y1 Z1 X2 Y2 Z2) ∧ Rp V (8 * (d + e) + 300) (tZ A1 B1 C1 A2 B2 C2) (cZ X1 Y1 Z1 X2 Y2 Z2) := by
 have m1 := Rp.add S (Rp.mul S hA1 hB2 Ab) (Rp.mul S hA2 hB1 Ab)
 have m2 := Rp.add S (Rp.mul S hB1 hB2 Ab) (Rp.mul S (hc (fP - 21)) (Rp.mul S hC1 hC2 Ab) Ab)
 have m6 := Rp.add S (Rp.mul S hB1 hB2 Ab) (Rp.mul S (hc 21) (Rp.mul S hC1 hC2 Ab) Ab)
 have m3 := Rp.add S (Rp.mul S hB1 hC2 Ab) (Rp.mul S hB2 hC1 Ab)
 have m4 := Rp.add S (Rp.mul S hA1 hC2 Ab) (Rp.mul S hA2 hC1 Ab)
 have m7 := Rp.mul S hA1 hA2 Ab
 have m5 := Rp.add S (Rp.mul S m1 m2 Ab) (Rp.mul S (hc (fP - 21)) (Rp.mul S m3 m4 Ab) Ab)
 have m8 := Rp.add S (Rp.mul S m6 m2 Ab) (Rp.mul S (hc 63) (Rp.mul S m7 m4 Ab) Ab)
 have m9 := Rp.add S (Rp.mul S m3 m6 Ab) (Rp.mul S (hc 3) (Rp.mul S m7 m1 Ab) Ab)
 exact ⟨m5.mono S Ab, m8.mono S Ab, m9.mono S Ab⟩
end
def e0 : Pl × Pl := ([], [])
def e1 : (Pl × Pl) × (Pl × Pl) := (e0, e0)
def tx1 : T3 := ((([(1, 1)], []), e0), e1)
def tx2 : T3 := ((([(1048576, 1)], []), e0), e1)
def tx3 : T3 := ((([(1099511627776, 1)], []), e0), e1)
def ty1 : T3 := ((([], [(0, 1)]), e0), e1)
def ty2 : T3 := ((e0, ([(0, 1)], [])), e1)
def ty3 : T3 := (e1, (([(0, 1)], []), e0))
def lX : T3 := tX (tX tx1 ty1 (tc 1) tx2 ty2 (tc 1)) (tY tx1 ty1 (tc 1) tx2 ty2 (tc 1)) (tZ tx1 ty1 (tc 1) tx2 ty2 (tc 1)) tx3 ty3 (tc 1)
def lY : T3 := tY (tX tx1 ty1 (tc 1) tx2 ty2 (tc 1)) (tY tx1 ty1 (tc 1) tx2 ty2 (tc 1)) (tZ tx1 ty1 (tc 1) tx2 ty2 (tc 1)) tx3 ty3 (tc 1)
def lZ : T3 := tZ (tX tx1 ty1 (tc 1) tx2 ty2 (tc 1)) (tY tx1 ty1 (tc 1) tx2 ty2 (tc 1)) (tZ tx1 ty1 (tc 1) tx2 ty2 (tc 1)) tx3 ty3 (tc 1)
def rX : T3 := tX tx1 ty1 (tc 1) (tX tx2 ty2 (tc 1) tx3 ty3 (tc 1)) (tY tx2 ty2 (tc 1) tx3 ty3 (tc 1)) (tZ tx2 ty2 (tc 1) tx3 ty3 (tc 1))
def rY : T3 := tY tx1 ty1 (tc 1) (tX tx2 ty2 (tc 1) tx3 ty3 (tc 1)) (tY tx2 ty2 (tc 1) tx3 ty3 (tc 1)) (tZ tx2 ty2 (tc 1) tx3 ty3 (tc 1))
def rZ : T3 := tZ tx1 ty1 (tc 1) (tX tx2 ty2 (tc 1) tx3 ty3 (tc 1)) (tY tx2 ty2 (tc 1) tx3 ty3 (tc 1)) (tZ tx2 ty2 (tc 1) tx3 ty3 (tc 1))
end Mvq
namespace Mvq
theorem l0p : (o3.mul lX rZ == o3.mul rX lZ) = true := by decide +kernel
end Mvq
namespace Mvq
theorem l0q : (o3.mul lY rZ == o3.mul rY lZ) = true := by decide +kernel
end Mvq
namespace Mvq
theorem bd0 : PBd 1 [] := iR _ _ Ac
theorem s0H (x1 x2 x3 y1 y2 y3 : K) (n : Nat) : Rp (v3 x1 x2 x3 y1 y2 y3) 0 (tc n) (kc n) := by
 refine ⟨?_, ?_⟩
 ·simp only [tc, v3, lU, plv, mo]; grind -lia -linarith
 ·have h0 : PBd 0 [] := iR _ _ Ac
  have h1 : PBd 0 [(0, n)] := iR _ _ Ae
  exact ⟨⟨⟨h1, h0⟩, ⟨h0, h0⟩⟩, ⟨⟨h0, h0⟩, ⟨h0, h0⟩⟩⟩
section
variable (x1 x2 x3 y1 y2 y3 : K)
theorem o0B : kc 1 = 1 := by decide
theorem q0R : Rp (v3 x1 x2 x3 y1 y2 y3) 1 tx1 x1 := by
 refine ⟨?_, ⟨⟨⟨iR _ _ Ac, bd0⟩, ⟨bd0, bd0⟩⟩, ⟨⟨bd0, bd0⟩, ⟨bd0, bd0⟩⟩⟩⟩
 simp only [tx1, e0, e1, v3, lU, plv, mo, o0B]; grind -lia -linarith
theorem q0S : Rp (v3 x1 x2 x3 y1 y2 y3) 1 tx2 x2 := by
 refine ⟨?_, ⟨⟨⟨iR _ _ Ac, bd0⟩, ⟨bd0, bd0⟩⟩, ⟨⟨bd0, bd0⟩, ⟨bd0, bd0⟩⟩⟩⟩
 simp only [tx2, e0, e1, v3, lU, plv, mo, o0B]; grind -lia -linarith
theorem q0T : Rp (v3 x1 x2 x3 y1 y2 y3) 1 tx3 x3 := by
 refine ⟨?_, ⟨⟨⟨iR _ _ Ac, bd0⟩, ⟨bd0, bd0⟩⟩, ⟨⟨bd0, bd0⟩, ⟨bd0, bd0⟩⟩⟩⟩
 simp only [tx3, e0, e1, v3, lU, plv, mo, o0B]; grind -lia -linarith
theorem q0U : Rp (v3 x1 x2 x3 y1 y2 y3) 1 ty1 y1 := by
 refine ⟨?_, ⟨⟨⟨bd0, iR _ _ Ac⟩, ⟨bd0, bd0⟩⟩, ⟨⟨bd0, bd0⟩, ⟨bd0, bd0⟩⟩⟩⟩
 simp only [ty1, e0, e1, v3, lU, plv, mo, o0B]; grind -lia -linarith
theorem q0V : Rp (v3 x1 x2 x3 y1 y2 y3) 1 ty2 y2 := by
 refine ⟨?_, ⟨⟨⟨bd0, bd0⟩, ⟨iR _ _ Ac, bd0⟩⟩, ⟨⟨bd0, bd0⟩, ⟨bd0, bd0⟩⟩⟩⟩
 simp only [ty2, e0, e1, v3, lU, plv, mo, o0B]; grind -lia -linarith
theorem q0W : Rp (v3 x1 x2 x3 y1 y2 y3) 1 ty3 y3 := by
 refine ⟨?_, ⟨⟨⟨bd0, bd0⟩, ⟨bd0, bd0⟩⟩, ⟨⟨iR _ _ Ac, bd0⟩, ⟨bd0, bd0⟩⟩⟩⟩
 simp only [ty3, e0, e1, v3, lU, plv, mo, o0B]; grind -lia -linarith
end
theorem s0I (x1 x2 x3 y1 y2 y3 : K) (h1 : y1 * y1 = x1 * x1 * x1 + 7) (h2 : y2 * y2 = x2 * x2 * x2 + 7) (h3 : y3 * y3 = x3 * x3 * x3 + 7) :
  cX (cX x1 y1 1 x2 y2 1) (cY x1 y1 1 x2 y2 1) (cZ x1 y1 1 x2 y2 1) x3 y3 1 * cZ x1 y1 1 (cX x2 y2 1 x3 y3 1) (cY x2 y2 1 x3 y3 1) (cZ x2 y2 1 x3 y3 1) =
   cX x1 y1 1 (cX x2 y2 1 x3 y3 1) (cY x2 y2 1 x3 y3 1) (cZ x2 y2 1 x3 y3 1) * cZ (cX x1 y1 1 x2 y2 1) (cY x1 y1 1 x2 y2 1) (cZ x1 y1 1 x2 y2 1) x3 y3 1 ∧
  cY (cX x1 y1 1 x2 y2 1) (cY x1 y1 1 x2 y2 1) (cZ x1 y1 1 x2 y2 1) x3 y3 1 * cZ x1 y1 1 (cX x2 y2 1 x3 y3 1) (cY x2 y2 1 x3 y3 1) (cZ x2 y2 1 x3 y3 1) =
   cY x1 y1 1 (cX x2 y2 1 x3 y3 1) (cY x2 y2 1 x3 y3 1) (cZ x2 y2 1 x3 y3 1) * cZ (cX x1 y1 1 x2 y2 1) (cY x1 y1 1 x2 y2 1) (cZ x1 y1 1 x2 y2 1) x3 y3 1 := by
 have S := t0v x1 x2 x3 y1 y2 y3 h1 h2 h3
 have hc := s0H x1 x2 x3 y1 y2 y3
 have c1 : Rp (v3 x1 x2 x3 y1 y2 y3) 1 (tc 1) 1 := (o0B ▸ hc 1).mono S Ab
 have A := t_ok S hc (q0R x1 x2 x3 y1 y2 y3) (q0U x1 x2 x3 y1 y2 y3) c1 (q0S x1 x2 x3 y1 y2 y3) (q0V x1 x2 x3 y1 y2 y3) c1 Ab
 have B := t_ok S hc (q0S x1 x2 x3 y1 y2 y3) (q0V x1 x2 x3 y1 y2 y3) c1 (q0T x1 x2 x3 y1 y2 y3) (q0W x1 x2 x3 y1 y2 y3) c1 Ab
 have L := t_ok S hc A.1 A.2.1 A.2.2 (q0T x1 x2 x3 y1 y2 y3) (q0W x1 x2 x3 y1 y2 y3) c1 Ab
 have R := t_ok S hc (q0R x1 x2 x3 y1 y2 y3) (q0U x1 x2 x3 y1 y2 y3) c1 B.1 B.2.1 B.2.2 Ab
 have m1 := Rp.mul S L.1 R.2.2 Ab
 have m2 := Rp.mul S R.1 L.2.2 Ab
 have m3 := Rp.mul S L.2.1 R.2.2 Ab
 have m4 := Rp.mul S R.2.1 L.2.2 Ab
 refine ⟨?_, ?_⟩
 ·rw [← m1.val, ← m2.val]; exact congrArg _ (eq_of_beq l0p)
 ·rw [← m3.val, ← m4.val]; exact congrArg _ (eq_of_beq l0q)
end Mvq
namespace Mvq
theorem n0b : IsP fP := m0Y
theorem q0X (a : K) : a.val < fP := a.isLt
theorem t0k {a : K} (h : a ≠ 0) : ¬ fP ∣ a.val := by
 intro hd
 have h1 := q0X a
 have h2 : a.val ≠ 0 := fun e => h (Fin.ext e)
 have := Nat.le_of_dvd Ab hd
 omega
def gE (a : K) : K := kc (a.val ^ (fP - 2))
theorem xJ (a : K) : kc a.val = a := by
 apply Fin.ext; simp [kc, Fin.ofNat, Nat.mod_eq_of_lt a.isLt]
theorem bN (a b : Nat) : kc (a * b) = kc a * kc b := by
 rw [← n0a]; apply Fin.ext; simp [kc, Fin.ofNat]
theorem kV (a : Nat) : kc (a % fP) = kc a := by apply Fin.ext; simp [kc, Fin.ofNat]
theorem cJ {a : K} (h : a ≠ 0) : a * gE a = 1 := by
 have h1 := e0E n0b (t0k h)
 have h2 : a.val * a.val ^ (fP - 2) = a.val ^ (fP - 1) := by rw [Nat.mul_comm, ← Nat.pow_succ, show (fP - 2).succ = fP - 1 by decide]
 have h3 : a * gE a = kc (a.val * a.val ^ (fP - 2)) := by rw [bN, xJ]; rfl
 rw [h3, h2, ← kV, h1]; decide
theorem bE {a b : K} (h : a * b = 0) : a = 0 ∨ b = 0 := by
 by_cases ha : a = 0
 ·exact Or.inl ha
 ·right
  have h1 := cJ ha
  generalize gE a = c at *
  grind -lia -linarith
theorem dU {a b c : K} (ha : a ≠ 0) (h : a * b = a * c) : b = c := by
 have h1 := cJ ha
 generalize gE a = d at *
 grind -lia -linarith
theorem o0C (a : K) (n : Nat) : kc (a.val ^ n) = a ^ n := by
  induction n with
  | zero => rw [Nat.pow_zero]; have : kc 1 = 1 := by decide
            rw [this]; grind -lia -linarith
  | succ n ih => rw [Nat.pow_succ, bN, ih, xJ]; grind -lia -linarith
theorem d0e (c : K) : c * c * c + 7 ≠ 0 := by
  intro h
  have hc : c * c * c = kc (fP - 7) := by
    have : kc (fP - 7) + 7 = 0 := by decide
    generalize kc (fP - 7) = m at *
    grind -lia -linarith
  have hc0 : c ≠ 0 := by
    intro h0
    subst h0
    exact absurd h Ac
  have h1 : c ^ (fP - 1) = 1 := by
    rw [← o0C, ← kV, e0E n0b (t0k hc0)]; decide
  have h2 : c ^ (fP - 1) = (c * c * c) ^ ((fP - 1) / 3) := by
    have e : (fP - 1) = (fP - 1) / 3 + (fP - 1) / 3 + (fP - 1) / 3 := by decide
    generalize (fP - 1) / 3 = n at *
    rw [e, b0I, b0I]
    clear e h1 h hc hc0
    induction n with
    | zero => grind -lia -linarith
    | succ n ih =>
      have e1 : ∀ x : K, x ^ (n + 1) = x ^ n * x := fun x => by grind -lia -linarith
      rw [e1, e1, ← ih]
      generalize c ^ n = d
      grind -lia -linarith
  rw [h1, hc] at h2
  have h3 : kc (fP - 7) ^ ((fP - 1) / 3) = kc ((fP - 7) ^ ((fP - 1) / 3) % fP) := by
    rw [kV]
    generalize (fP - 1) / 3 = n
    induction n with
    | zero => have : kc 1 = 1 := by decide
              rw [Nat.pow_zero, this]; grind -lia -linarith
    | succ n ih => rw [Nat.pow_succ, bN, ← ih]; grind -lia -linarith
  rw [h3, ← l0m fP 256 (fP - 7) ((fP - 1) / 3) Ac] at h2
  exact absurd h2 An
end Mvq
namespace Mvq
inductive Pt where
 | O : Pt
 | A : K → K → Pt
def onC : Pt → Prop
 | .O => True
 | .A x y => y * y = x * x * x + 7
def nm (X Y Z : K) : Pt := if Z = 0 then .O else .A (X * gE Z) (Y * gE Z)
def cE : Pt → Pt → Pt
 | .O, q => q
 | .A x y, .O => .A x y
 | .A x1 y1, .A x2 y2 => nm (cX x1 y1 1 x2 y2 1) (cY x1 y1 1 x2 y2 1) (cZ x1 y1 1 x2 y2 1)
def lW : Pt → Pt
 | .O => .O
 | .A x y => .A x (-y)
theorem t0l : kc (fP - 21) = -21 := by decide
theorem k21 : kc 21 = 21 := by decide
theorem k63 : kc 63 = 63 := by decide
theorem k3 : kc 3 = 3 := by decide
theorem uO (X1 Y1 Z1 X2 Y2 Z2 : K) : cX X1 Y1 Z1 X2 Y2 Z2 = (X1*Y2 + X2*Y1)*(Y1*Y2 - 21*Z1*Z2) - 21*(Y1*Z2 + Y2*Z1)*(X1*Z2 + X2*Z1) := by
 unfold cX; rw [t0l]; grind -lia -linarith
theorem uP (X1 Y1 Z1 X2 Y2 Z2 : K) : cY X1 Y1 Z1 X2 Y2 Z2 = (Y1*Y2 + 21*Z1*Z2)*(Y1*Y2 - 21*Z1*Z2) + 63*X1*X2*(X1*Z2 + X2*Z1) := by
 unfold cY; rw [t0l, k21, k63]; grind -lia -linarith
theorem pS (X1 Y1 Z1 X2 Y2 Z2 : K) : cZ X1 Y1 Z1 X2 Y2 Z2 = (Y1*Z2 + Y2*Z1)*(Y1*Y2 + 21*Z1*Z2) + 3*X1*X2*(X1*Y2 + X2*Y1) := by
 unfold cZ; rw [k21, k3]; grind -lia -linarith
theorem e0G {a X Y Z : K} (ha : a ≠ 0) : nm (a * X) (a * Y) (a * Z) = nm X Y Z := by
 unfold nm
 by_cases hz : Z = 0
 ·rw [if_pos hz, if_pos (by rw [hz]; grind -lia -linarith)]
 ·have haz : a * Z ≠ 0 := fun h => (bE h).elim ha hz
  rw [if_neg hz, if_neg haz]
  have h1 := cJ hz
  have h2 := cJ haz
  generalize gE Z = u at *
  generalize gE (a * Z) = v at *
  have h3 : a * v = u := by
   refine dU hz ?_
   grind -lia -linarith
  congr 1
  ·rw [← h3]; grind -lia -linarith
  ·rw [← h3]; grind -lia -linarith
theorem k0f {x y : K} (h : y * y = x * x * x + 7) : y ≠ 0 := by
 intro h0
 subst h0
 refine d0e x ?_
 grind -lia -linarith
theorem xK : (2 : K) ≠ 0 := by decide
theorem t0w {x1 y1 x2 y2 : K} (h1 : y1 * y1 = x1 * x1 * x1 + 7) (h2 : y2 * y2 = x2 * x2 * x2 + 7) :
  cZ x1 y1 1 x2 y2 1 * cZ x1 y1 1 x2 y2 1 = (x1*x2*(x1+x2) + 14 + 2*y1*y2) * (x1*x2*(x1+x2) + 14 + 2*y1*y2) * (x1*x2*(x1+x2) + 14 + 2*y1*y2) + 7 * ((x2-x1)*(x2-x1)*(x2-x1)*(x2-x1)*(x2-x1)*(x2-x1)) := by
 rw [pS]
 grind -lia -linarith
theorem n0c {x1 y1 x2 y2 : K} (h1 : y1 * y1 = x1 * x1 * x1 + 7) (h2 : y2 * y2 = x2 * x2 * x2 + 7) (hz : cZ x1 y1 1 x2 y2 1 = 0) : x2 = x1 ∧ y2 = -y1 := by
 by_cases hx : x2 - x1 = 0
 ·have hx' : x2 = x1 := by grind -lia -linarith
  subst hx'
  have hyy : (y2 - y1) * (y2 + y1) = 0 := by grind -lia -linarith
  rcases bE hyy with h | h
  ·exfalso
   have e : y2 = y1 := by grind -lia -linarith
   subst e
   rw [pS] at hz
   have h8 : (2 * y2) * ((2 * y2) * (2 * y2)) = 0 := by grind -lia -linarith
   have hy := k0f h1
   have h2y : (2 : K) * y2 ≠ 0 := fun h => (bE h).elim xK hy
   exact (bE h8).elim h2y fun h => (bE h).elim h2y h2y
  ·exact ⟨rfl, by grind -lia -linarith⟩
 ·exfalso
  have hi := t0w h1 h2
  rw [hz] at hi
  have hd := cJ hx
  generalize gE (x2 - x1) = u at *
  generalize x1*x2*(x1+x2) + 14 + 2*y1*y2 = m at *
  generalize x2 - x1 = d at *
  refine d0e (m * u * u) ?_
  have e : (m * u * u) * (m * u * u) * (m * u * u) + 7 = (m * m * m + 7 * (d * d * d * d * d * d)) * (u * u * u * u * u * u) := by grind -lia -linarith
  rw [e, ← hi]
  grind -lia -linarith
theorem t0x (x y : K) (h : y * y = x * x * x + 7) (h0 : x*x*x*x*x*x + 140*(x*x*x) - 392 = 0) : False := by
 have hy := k0f h
 have h2 : (2 : K) * y ≠ 0 := fun h => (bE h).elim xK hy
 have hu := cJ h2
 generalize gE (2 * y) = u at *
 refine d0e ((x*x*x*x - 56*x) * u * u) ?_
 have e : ((x*x*x*x - 56*x) * u * u) * ((x*x*x*x - 56*x) * u * u) * ((x*x*x*x - 56*x) * u * u) + 7 = ((x*x*x*x - 56*x) * (x*x*x*x - 56*x) * (x*x*x*x - 56*x) + 7 * ((2*y)*(2*y)*(2*y)*(2*y)*(2*y)*(2*y))) * (u * u * u * u * u * u) := by grind -lia -linarith
 have e2 : (x*x*x*x - 56*x) * (x*x*x*x - 56*x) * (x*x*x*x - 56*x) + 7 * ((2*y)*(2*y)*(2*y)*(2*y)*(2*y)*(2*y)) = (x*x*x*x*x*x + 140*(x*x*x) - 392) * (x*x*x*x*x*x + 140*(x*x*x) - 392) := by
  have e3 : (2*y)*(2*y)*(2*y)*(2*y)*(2*y)*(2*y) = 64 * ((x*x*x+7)*(x*x*x+7)*(x*x*x+7)) := by rw [← h]; grind -lia -linarith
  rw [e3]; grind -lia -linarith
 rw [e, e2, h0]; grind -lia -linarith
def okT (X Y Z : K) : Prop := Z ≠ 0 ∨ (X = 0 ∧ Y ≠ 0)
theorem _root_.Bb {p : Prop} (h : p := by grind -lia -linarith) : p := h
theorem i0u {x1 y1 x2 y2 : K} (h1 : y1 * y1 = x1 * x1 * x1 + 7) (h2 : y2 * y2 = x2 * x2 * x2 + 7) : okT (cX x1 y1 1 x2 y2 1) (cY x1 y1 1 x2 y2 1) (cZ x1 y1 1 x2 y2 1) := by
 by_cases hz : cZ x1 y1 1 x2 y2 1 = 0
 ·right
  obtain ⟨rfl, rfl⟩ := n0c h1 h2 hz
  refine ⟨?_, fun h0 => ?_⟩
  ·rw [uO]; grind -lia -linarith
  ·rw [uP] at h0
   exact t0x x2 y1 h1 Bb
 ·exact Or.inl hz
theorem i0v {x1 y1 x2 y2 : K} (h1 : y1 * y1 = x1 * x1 * x1 + 7) (h2 : y2 * y2 = x2 * x2 * x2 + 7) :
  cY x1 y1 1 x2 y2 1 * cY x1 y1 1 x2 y2 1 * cZ x1 y1 1 x2 y2 1 = cX x1 y1 1 x2 y2 1 * cX x1 y1 1 x2 y2 1 * cX x1 y1 1 x2 y2 1 + 7 * (cZ x1 y1 1 x2 y2 1 * cZ x1 y1 1 x2 y2 1 * cZ x1 y1 1 x2 y2 1) := by
 have eX : cX x1 y1 1 x2 y2 1 = x1*x2*x2*x2*y1 + x2*x1*x1*x1*y2 - 14*x1*y1 - 14*x2*y2 - 42*x1*y2 - 42*x2*y1 := by rw [uO]; grind -lia -linarith
 have eY : cY x1 y1 1 x2 y2 1 = x1*x1*x1*x2*x2*x2 + 7*x1*x1*x1+7*x2*x2*x2 - 392 + 63*x1*x1*x2+63*x1*x2*x2 := by rw [uP]; grind -lia -linarith
 have eZ : cZ x1 y1 1 x2 y2 1 = x1*x1*x1*y2 + 28*y2+28*y1+x2*x2*x2*y1+3*x1*x1*x2*y2+3*x1*x2*x2*y1 := by rw [pS]; grind -lia -linarith
 rw [eX, eY, eZ]
 clear eX eY eZ
 grind -lia -linarith
theorem o0D {X Y Z : K} (h : Y * Y * Z = X * X * X + 7 * (Z * Z * Z)) : onC (nm X Y Z) := by
 unfold nm
 split
 ·trivial
 ·rename_i hz
  have h1 := cJ hz
  generalize gE Z = u at *
  show (Y * u) * (Y * u) = (X * u) * (X * u) * (X * u) + 7
  have e : (Y * u) * (Y * u) = (Y * Y * Z) * (u * u * u) := by grind -lia -linarith
  rw [e, h]; grind -lia -linarith
theorem eL {p q : Pt} (hp : onC p) (hq : onC q) : onC (cE p q) := by
 cases p with
 | O => exact hq
 | A x1 y1 => cases q with
  | O => exact hp
  | A x2 y2 => exact o0D (i0v hp hq)
theorem fG (p q : Pt) : cE p q = cE q p := by
 cases p with
 | O => cases q <;> rfl
 | A x1 y1 => cases q with
  | O => rfl
  | A x2 y2 =>
   have eX : cX x1 y1 1 x2 y2 1 = cX x2 y2 1 x1 y1 1 := by rw [uO, uO]; grind -lia -linarith
   have eY : cY x1 y1 1 x2 y2 1 = cY x2 y2 1 x1 y1 1 := by rw [uP, uP]; grind -lia -linarith
   have eZ : cZ x1 y1 1 x2 y2 1 = cZ x2 y2 1 x1 y1 1 := by rw [pS, pS]; grind -lia -linarith
   simp only [cE, eX, eY, eZ]
theorem eF (p : Pt) : cE p .O = p := by cases p <;> rfl
theorem i0w (p : Pt) : cE .O p = p := rfl
theorem fC {p : Pt} : cE p (lW p) = .O := by
 cases p with
 | O => rfl
 | A x y =>
  have eZ : cZ x y 1 x (-y) 1 = 0 := by rw [pS]; grind -lia -linarith
  simp only [lW, cE, nm, eZ, if_true]
theorem dZ {p : Pt} (hp : onC p) : onC (lW p) := by
 cases p with
 | O => trivial
 | A x y => show (-y) * (-y) = x * x * x + 7; have : y * y = x * x * x + 7 := hp; grind -lia -linarith
theorem i0x {X Y Z x y : K} (ht : okT X Y Z) (hq : y * y = x * x * x + 7) (hp : onC (nm X Y Z)) :
  cE (nm X Y Z) (.A x y) = nm (cX X Y Z x y 1) (cY X Y Z x y 1) (cZ X Y Z x y 1) ∧ okT (cX X Y Z x y 1) (cY X Y Z x y 1) (cZ X Y Z x y 1) := by
 by_cases hz : Z = 0
 ·obtain ⟨hX, hY⟩ := ht.resolve_left (by simpa using hz)
  subst hz hX
  have hy := k0f hq
  have hs : Y * Y * y ≠ 0 := fun h => (bE h).elim (fun h => (bE h).elim hY hY) hy
  have eX : cX 0 Y 0 x y 1 = (Y * Y * y) * x := by rw [uO]; grind -lia -linarith
  have eY : cY 0 Y 0 x y 1 = (Y * Y * y) * y := by rw [uP]; grind -lia -linarith
  have eZ : cZ 0 Y 0 x y 1 = (Y * Y * y) * 1 := by rw [pS]; grind -lia -linarith
  rw [eX, eY, eZ, e0G hs]
  constructor
  ·have h0 : nm 0 Y 0 = .O := by unfold nm; rw [if_pos rfl]
   have h1 : nm x y 1 = .A x y := by
    unfold nm
    rw [if_neg Ac]
    have h1 := cJ (show (1 : K) ≠ 0 by decide)
    generalize gE (1 : K) = u at *
    congr 1
    ·grind -lia -linarith
    ·grind -lia -linarith
   rw [h0, h1]; rfl
  ·left
   intro h; exact hs Bb
 ·have hN : nm X Y Z = .A (X * gE Z) (Y * gE Z) := by unfold nm; rw [if_neg hz]
  rw [hN] at hp ⊢
  have h1 := cJ hz
  have hp' : (Y * gE Z) * (Y * gE Z) = (X * gE Z) * (X * gE Z) * (X * gE Z) + 7 := hp
  have hok := i0u hp' hq
  generalize gE Z = u at *
  have eX : cX X Y Z x y 1 = (Z * Z) * cX (X * u) (Y * u) 1 x y 1 := by rw [uO, uO]; grind -lia -linarith
  have eY : cY X Y Z x y 1 = (Z * Z) * cY (X * u) (Y * u) 1 x y 1 := by rw [uP, uP]; grind -lia -linarith
  have eZ : cZ X Y Z x y 1 = (Z * Z) * cZ (X * u) (Y * u) 1 x y 1 := by rw [pS, pS]; grind -lia -linarith
  have hzz : Z * Z ≠ 0 := fun h => (bE h).elim hz hz
  rw [eX, eY, eZ, e0G hzz]
  refine ⟨rfl, ?_⟩
  rcases hok with h | ⟨h2, h3⟩
  ·exact Or.inl fun h' => (bE h').elim hzz h
  ·exact Or.inr ⟨by rw [h2]; grind -lia -linarith, fun h' => (bE h').elim hzz h3⟩
theorem o0E {X Y Z X' Y' Z' : K} (h : okT X Y Z) (h' : okT X' Y' Z') (e1 : X * Z' = X' * Z) (e2 : Y * Z' = Y' * Z) : nm X Y Z = nm X' Y' Z' := by
 by_cases hz : Z = 0
 ·obtain ⟨hX, hY⟩ := h.resolve_left (by simpa using hz)
  subst hz
  have : Y * Z' = 0 := by rw [e2]; grind -lia -linarith
  have hz' := (bE this).resolve_left hY
  unfold nm
  rw [if_pos rfl, if_pos hz']
 ·by_cases hz' : Z' = 0
  ·obtain ⟨hX, hY⟩ := h'.resolve_left (by simpa using hz')
   subst hz'
   exfalso
   have : Y' * Z = 0 := by rw [← e2]; grind -lia -linarith
   exact (bE this).elim hY hz
  ·unfold nm
   rw [if_neg hz, if_neg hz']
   have h1 := cJ hz
   have h2 := cJ hz'
   generalize gE Z = u at *
   generalize gE Z' = v at *
   congr 1
   ·refine dU hz (dU hz' ?_); grind -lia -linarith
   ·refine dU hz (dU hz' ?_); grind -lia -linarith
theorem cF {p q r : Pt} (hp : onC p) (hq : onC q) (hr : onC r) : cE (cE p q) r = cE p (cE q r) := by
 cases p with
 | O => rfl
 | A x1 y1 => cases q with
  | O => cases r <;> rfl
  | A x2 y2 => cases r with
   | O => rw [eF, eF]
   | A x3 y3 =>
    have h1 : y1 * y1 = x1 * x1 * x1 + 7 := hp
    have h2 : y2 * y2 = x2 * x2 * x2 + 7 := hq
    have h3 : y3 * y3 = x3 * x3 * x3 + 7 := hr
    have hA := i0x (i0u h1 h2) h3 (o0D (i0v h1 h2))
    have hB := i0x (i0u h2 h3) h1 (o0D (i0v h2 h3))
    have hass := s0I x1 x2 x3 y1 y2 y3 h1 h2 h3
    rw [fG (.A x1 y1) (cE _ _)]
    show cE (nm _ _ _) (.A x3 y3) = cE (nm _ _ _) (.A x1 y1)
    rw [hA.1, hB.1]
    have swX : ∀ X Y Z : K, cX X Y Z x1 y1 1 = cX x1 y1 1 X Y Z := fun X Y Z => by rw [uO, uO]; grind -lia -linarith
    have swY : ∀ X Y Z : K, cY X Y Z x1 y1 1 = cY x1 y1 1 X Y Z := fun X Y Z => by rw [uP, uP]; grind -lia -linarith
    have swZ : ∀ X Y Z : K, cZ X Y Z x1 y1 1 = cZ x1 y1 1 X Y Z := fun X Y Z => by rw [pS, pS]; grind -lia -linarith
    have hB2 := hB.2
    rw [swX, swY, swZ] at hB2 ⊢
    exact o0E hA.2 hB2 hass.1 hass.2
end Mvq
namespace Mvq
theorem q0Y {x1 y1 x2 y2 : K} (h1 : y1 * y1 = x1 * x1 * x1 + 7) (h2 : y2 * y2 = x2 * x2 * x2 + 7) : (x1*x2*(x1+x2) + 14 - 2*y1*y2) = (y2 - y1) * (y2 - y1) - (x1 + x2) * ((x2 - x1) * (x2 - x1)) := by
 grind -lia -linarith
theorem q0Z {x1 y1 x2 y2 : K} (h1 : y1 * y1 = x1 * x1 * x1 + 7) (h2 : y2 * y2 = x2 * x2 * x2 + 7) : cY x1 y1 1 x2 y2 1 * ((x2 - x1) * (x2 - x1) * (x2 - x1)) = ((y2 - y1) * (x1 * ((x2 - x1) * (x2 - x1)) - (x1*x2*(x1+x2) + 14 - 2*y1*y2)) - y1 * ((x2 - x1) * (x2 - x1) * (x2 - x1))) * cZ x1 y1 1 x2 y2 1 := by
 have eY : cY x1 y1 1 x2 y2 1 = x1*x1*x1*x2*x2*x2 + 7*x1*x1*x1+7*x2*x2*x2 - 392 + 63*x1*x1*x2+63*x1*x2*x2 := by rw [uP]; grind -lia -linarith
 have eZ : cZ x1 y1 1 x2 y2 1 = x1*x1*x1*y2 + 28*y2+28*y1+x2*x2*x2*y1+3*x1*x1*x2*y2+3*x1*x2*x2*y1 := by rw [pS]; grind -lia -linarith
 rw [eY, eZ]
 clear eY eZ
 grind -lia -linarith
theorem xL {x1 y1 x2 y2 u : K} (h1 : y1 * y1 = x1 * x1 * x1 + 7) (h2 : y2 * y2 = x2 * x2 * x2 + 7) (hd : (x2 - x1) * u = 1) :
  cE (.A x1 y1) (.A x2 y2) = .A (((y2 - y1) * u) * ((y2 - y1) * u) - x1 - x2) (((y2 - y1) * u) * (x1 - (((y2 - y1) * u) * ((y2 - y1) * u) - x1 - x2)) - y1) := by
 have hz : cZ x1 y1 1 x2 y2 1 ≠ 0 := fun h => by
  obtain ⟨rfl, -⟩ := n0c h1 h2 h
  have : (0 : K) = 1 := by rw [← hd]; grind -lia -linarith
  exact absurd this Ac
 show nm _ _ _ = _
 have hd0 : x2 - x1 ≠ 0 := fun h => by
  rw [h] at hd
  have : (0 : K) = 1 := by rw [← hd]; grind -lia -linarith
  exact absurd this Ac
 have eX : cX x1 y1 1 x2 y2 1 * ((x2 - x1) * (x2 - x1)) = (x1*x2*(x1+x2) + 14 - 2*y1*y2) * cZ x1 y1 1 x2 y2 1 := by
  rw [uO, pS]; grind -lia -linarith
 have e4 : (x1*x2*(x1+x2) + 14 - 2*y1*y2) = (y2 - y1) * (y2 - y1) - (x1 + x2) * ((x2 - x1) * (x2 - x1)) := q0Y h1 h2
 have eY := q0Z h1 h2
 rw [e4] at eX eY
 unfold nm
 rw [if_neg hz]
 have hv := cJ hz
 generalize gE (cZ x1 y1 1 x2 y2 1) = v at *
 generalize cX x1 y1 1 x2 y2 1 = X at *
 generalize cY x1 y1 1 x2 y2 1 = Y at *
 generalize cZ x1 y1 1 x2 y2 1 = Z at *
 clear h1 h2 e4
 generalize hdd : x2 - x1 = d at *
 generalize y2 - y1 = n at *
 have hx2 : x2 = x1 + d := by rw [← hdd]; grind -lia -linarith
 subst hx2
 clear hdd
 congr 1
 ·refine dU hd0 (dU hd0 (dU hz ?_)); grind -lia -linarith
 ·refine dU hd0 (dU hd0 (dU hd0 (dU hz ?_))); grind -lia -linarith
theorem rK {x y u : K} (h : y * y = x * x * x + 7) (hd : (2 * y) * u = 1) :
  cE (.A x y) (.A x y) = .A ((3 * x * x * u) * (3 * x * x * u) - x - x) ((3 * x * x * u) * (x - ((3 * x * x * u) * (3 * x * x * u) - x - x)) - y) := by
 have hy := k0f h
 have h2y : (2 : K) * y ≠ 0 := fun h => (bE h).elim xK hy
 have eZ : cZ x y 1 x y 1 = (2 * y) * (2 * y) * (2 * y) := by rw [pS]; grind -lia -linarith
 have eX : cX x y 1 x y 1 = (2 * y) * (9 * x * x * x * x - 2 * x * ((2 * y) * (2 * y))) := by rw [uO]; grind -lia -linarith
 have eY : cY x y 1 x y 1 = 3 * x * x * (x * ((2 * y) * (2 * y)) - (9 * x * x * x * x - 2 * x * ((2 * y) * (2 * y)))) - y * ((2 * y) * (2 * y) * (2 * y)) := by rw [uP]; grind -lia -linarith
 show nm _ _ _ = _
 have hz : cZ x y 1 x y 1 ≠ 0 := by
  rw [eZ]; exact fun h => (bE h).elim (fun h => (bE h).elim h2y h2y) h2y
 unfold nm
 rw [if_neg hz]
 have hv := cJ hz
 generalize gE (cZ x y 1 x y 1) = v at *
 rw [eX, eY]
 rw [eZ] at hv
 clear eX eY eZ hz h
 generalize h2 : 2 * y = t at *
 congr 1
 ·refine dU h2y (dU h2y ?_); grind -lia -linarith
 ·refine dU h2y (dU h2y (dU h2y ?_)); grind -lia -linarith
def jk (X Y Z : K) : Pt := if Z = 0 then .O else .A (X * (gE Z * gE Z)) (Y * (gE Z * gE Z * gE Z))
theorem l0r {X Y Z : K} (hz : Z ≠ 0) : jk X Y Z = .A (X * (gE Z * gE Z)) (Y * (gE Z * gE Z * gE Z)) := by unfold jk; rw [if_neg hz]
theorem o0F {X Y Z : K} (hz : Z = 0) : jk X Y Z = .O := by unfold jk; rw [if_pos hz]
theorem o0G {X Y Z x y : K} (hz : Z ≠ 0) (hx : X = x * (Z * Z)) (hy : Y = y * (Z * Z * Z)) : jk X Y Z = .A x y := by
 rw [l0r hz]
 have h1 := cJ hz
 generalize gE Z = u at *
 subst hx hy
 congr 1
 ·grind -lia -linarith
 ·grind -lia -linarith
theorem uQ {X Y Z : K} (hz : Z ≠ 0) (h : onC (jk X Y Z)) : ∃ x y, jk X Y Z = .A x y ∧ y * y = x * x * x + 7 ∧ X = x * (Z * Z) ∧ Y = y * (Z * Z * Z) := by
 refine ⟨_, _, l0r hz, ?_, ?_, ?_⟩
 ·rw [l0r hz] at h; exact h
 ·have h1 := cJ hz
  generalize gE Z = u at *
  grind -lia -linarith
 ·have h1 := cJ hz
  generalize gE Z = u at *
  grind -lia -linarith
theorem i0y {X Y Z : K} (h : onC (jk X Y Z)) (hz : Z ≠ 0) (a b bb d e x' : K) (ha : a = X * X) (hb : b = Y * Y) (hbb : bb = b * b) (hd : d = 2 * ((X + b) * (X + b) - (a + bb))) (he : e = 3 * a) (hx : x' = e * e - (d + d)) :
  jk x' (e * (d - x') - 8 * bb) (2 * (Y * Z)) = cE (jk X Y Z) (jk X Y Z) := by
 obtain ⟨x, y, e0, hon, hX, hY⟩ := uQ hz h
 have hy := k0f hon
 have h2y : (2 : K) * y ≠ 0 := fun h => (bE h).elim xK hy
 have hu := cJ h2y
 rw [e0, rK hon hu]
 generalize gE (2 * y) = u at *
 have hz4 : Z * Z * (Z * Z) ≠ 0 := fun h => (bE h).elim (fun h => (bE h).elim hz hz) (fun h => (bE h).elim hz hz)
 have eZ : 2 * (Y * Z) = (2 * y) * (Z * Z * (Z * Z)) := by rw [hY]; grind -lia -linarith
 refine o0G (by rw [eZ]; exact fun h => (bE h).elim h2y hz4) ?_ ?_
 ·rw [eZ]; subst hx he hd hbb hb ha hX hY; clear e0 h hon hz4 h2y hy eZ hz
  grind -lia -linarith
 ·rw [eZ]; subst hx he hd hbb hb ha hX hY; clear e0 h hon hz4 h2y hy eZ hz
  grind -lia -linarith
theorem o0H {X1 Y1 Z1 X2 Y2 Z2 : K} (hp : onC (jk X1 Y1 Z1)) (hq : onC (jk X2 Y2 Z2)) (hz1 : Z1 ≠ 0) (hz2 : Z2 ≠ 0) (u1 u2 s1 s2 h r hh hhh v x : K) (e1 : u1 = X1 * (Z2 * Z2)) (e2 : u2 = X2 * (Z1 * Z1)) (e3 : s1 = Y1 * (Z2 * Z2 * Z2)) (e4 : s2 = Y2 * (Z1 * Z1 * Z1))
  (eh : h = u2 - u1) (er : r = s2 - s1) (hn : h ≠ 0) (ehh : hh = h * h) (ehhh : hhh = hh * h) (ev : v = u1 * hh) (ex : x = r * r - (hhh + (v + v))) :
  jk x (r * (v - x) - s1 * hhh) (h * (Z1 * Z2)) = cE (jk X1 Y1 Z1) (jk X2 Y2 Z2) := by
 obtain ⟨x1, y1, f1, o1, hX1, hY1⟩ := uQ hz1 hp
 obtain ⟨x2, y2, f2, o2, hX2, hY2⟩ := uQ hz2 hq
 have hzz : Z1 * Z2 ≠ 0 := fun h => (bE h).elim hz1 hz2
 have ehd : h = (x2 - x1) * ((Z1 * Z2) * (Z1 * Z2)) := by rw [eh, e1, e2, hX1, hX2]; grind -lia -linarith
 have erd : r = (y2 - y1) * ((Z1 * Z2) * (Z1 * Z2) * (Z1 * Z2)) := by rw [er, e3, e4, hY1, hY2]; grind -lia -linarith
 have eu : u1 = x1 * ((Z1 * Z2) * (Z1 * Z2)) := by rw [e1, hX1]; grind -lia -linarith
 have es : s1 = y1 * ((Z1 * Z2) * (Z1 * Z2) * (Z1 * Z2)) := by rw [e3, hY1]; grind -lia -linarith
 have hd0 : x2 - x1 ≠ 0 := fun hh => hn (by rw [ehd, hh]; grind -lia -linarith)
 have hu := cJ hd0
 rw [f1, f2, xL o1 o2 hu]
 generalize gE (x2 - x1) = u at *
 refine o0G (fun hh => (bE hh).elim hn hzz) ?_ ?_
 ·subst ex ev ehhh ehh
  rw [erd, eu, ehd]
  clear e1 e2 e3 e4 eh er hn erd eu es ehd hX1 hX2 hY1 hY2 f1 f2 o1 o2 hp hq hz1 hz2 hd0
  generalize Z1 * Z2 = z at *
  generalize hdd : x2 - x1 = d at *
  have hx2 : x2 = x1 + d := by rw [← hdd]; grind -lia -linarith
  subst hx2; clear hdd
  generalize y2 - y1 = n at *
  grind -lia -linarith
 ·subst ex ev ehhh ehh
  rw [erd, eu, ehd, es]
  clear e1 e2 e3 e4 eh er hn erd eu es ehd hX1 hX2 hY1 hY2 f1 f2 o1 o2 hp hq hz1 hz2 hd0
  generalize Z1 * Z2 = z at *
  generalize hdd : x2 - x1 = d at *
  have hx2 : x2 = x1 + d := by rw [← hdd]; grind -lia -linarith
  subst hx2; clear hdd
  generalize y2 - y1 = n at *
  grind -lia -linarith
theorem o0I {X1 Y1 Z1 X2 Y2 Z2 : K} (hp : onC (jk X1 Y1 Z1)) (hq : onC (jk X2 Y2 Z2)) (hz1 : Z1 ≠ 0) (hz2 : Z2 ≠ 0) (h : X2 * (Z1 * Z1) - X1 * (Z2 * Z2) = 0) :
  (Y2 * (Z1 * Z1 * Z1) - Y1 * (Z2 * Z2 * Z2) = 0 → jk X2 Y2 Z2 = jk X1 Y1 Z1) ∧ (Y2 * (Z1 * Z1 * Z1) - Y1 * (Z2 * Z2 * Z2) ≠ 0 → cE (jk X1 Y1 Z1) (jk X2 Y2 Z2) = .O) := by
 obtain ⟨x1, y1, f1, o1, hX1, hY1⟩ := uQ hz1 hp
 obtain ⟨x2, y2, f2, o2, hX2, hY2⟩ := uQ hz2 hq
 have hzz : Z1 * Z2 ≠ 0 := fun h => (bE h).elim hz1 hz2
 have hx : x2 = x1 := by
  refine dU hzz (dU hzz ?_)
  rw [hX1, hX2] at h; grind -lia -linarith
 subst hx
 have hyy : (y2 - y1) * (y2 + y1) = 0 := by grind -lia -linarith
 refine ⟨fun hy => ?_, fun hy => ?_⟩
 ·have : y2 = y1 := by
   refine dU hzz (dU hzz (dU hzz ?_))
   rw [hY1, hY2] at hy; grind -lia -linarith
  rw [f1, f2, this]
 ·rcases bE hyy with h1 | h1
  ·exfalso
   refine hy ?_
   have e : y2 = y1 := by grind -lia -linarith
   rw [hY1, hY2, e]; grind -lia -linarith
  ·have e : y2 = -y1 := by grind -lia -linarith
   rw [f1, f2, e]
   exact fC (p := .A x2 y1)
def bV : Nat → Pt → Pt
 | 0, _ => .O
 | n + 1, p => cE (bV n p) p
theorem bU {p : Pt} (hp : onC p) : ∀ n, onC (bV n p)
 | 0 => trivial
 | n + 1 => eL (bU hp n) hp
theorem eB {p : Pt} (hp : onC p) (m : Nat) : ∀ n, bV (m + n) p = cE (bV m p) (bV n p)
 | 0 => (eF _).symm
 | n + 1 => by
  show cE (bV (m + n) p) p = cE (bV m p) (cE (bV n p) p)
  rw [eB hp m n, cF (bU hp m) (bU hp n) hp]
theorem iB {p : Pt} (hp : onC p) (m : Nat) : ∀ n, bV (m * n) p = bV n (bV m p)
 | 0 => rfl
 | n + 1 => by
  rw [Nat.mul_succ, eB hp, iB hp m n]; rfl
theorem xM : ∀ n, bV n .O = .O
 | 0 => rfl
 | n + 1 => by rw [bV, xM n]; rfl
theorem uR {p q : Pt} (hp : onC p) (hq : onC q) : ∀ n, bV n (cE p q) = cE (bV n p) (bV n q)
 | 0 => rfl
 | n + 1 => by
  have h1 := bU hp n
  have h2 := bU hq n
  simp only [bV]
  rw [uR hp hq n, cF h1 h2 (eL hp hq), cF h1 hp (eL h2 hq), ← cF h2 hp hq, fG (bV n q) p, cF hp h2 hq]
end Mvq
namespace Mvq
theorem i0z : Mvp.pP = fP := by decide
theorem qT (a b : Nat) : kc (a + b) = kc a + kc b := by rw [← m0Z, kV]
theorem gW (a b : Nat) : kc (a + (fP - b % fP)) = kc a - kc b := by
 have h : kc (a + (fP - b % fP)) + kc b = kc a := by
  rw [← qT]
  apply Fin.ext
  simp only [kc, Fin.ofNat]
  have h1 := Nat.div_add_mod b fP
  have h2 : b % fP < fP := Nat.mod_lt _ Ac
  rw [show a + (fP - b % fP) + b = a + fP * (b / fP + 1) by rw [Nat.mul_add]; omega, Nat.add_mul_mod_self_left]
 rw [← h]; generalize kc b = u; generalize kc (a + (fP - b % fP)) = v; grind -lia -linarith
theorem d0f (b : Nat) : kc (fP - b % fP) = - kc b := by
 have h := gW 0 b
 rw [Nat.zero_add] at h
 have h0 : kc 0 = 0 := by decide
 rw [h, h0]; generalize kc b = u; grind -lia -linarith
theorem i0A (a : Nat) : (a % fP == 0) = decide (kc a = 0) := by
 rw [Bool.eq_iff_iff]
 simp only [beq_iff_eq, decide_eq_true_eq]
 constructor
 ·intro h
  apply Fin.ext
  simp only [kc, Fin.ofNat]
  exact h
 ·intro h
  have := congrArg Fin.val h
  exact this
theorem r0a (a b : Nat) : (a % fP == b % fP) = decide (kc a = kc b) := by
 rw [Bool.eq_iff_iff]
 simp only [beq_iff_eq, decide_eq_true_eq]
 constructor
 ·intro h
  apply Fin.ext
  simp only [kc, Fin.ofNat]
  exact h
 ·intro h
  have := congrArg Fin.val h
  simpa only [kc, Fin.ofNat] using this
theorem b0K {X Y Z : K} (hz : Z ≠ 0) : nm X Y Z = .A (X * gE Z) (Y * gE Z) := by unfold nm; rw [if_neg hz]
theorem k0g {X Y Z : K} (hz : Z = 0) : nm X Y Z = .O := by unfold nm; rw [if_pos hz]
theorem g0k {X Y Z x y : K} (hz : Z ≠ 0) (hx : X = x * Z) (hy : Y = y * Z) : nm X Y Z = .A x y := by
 rw [b0K hz]
 have h1 := cJ hz
 generalize gE Z = u at *
 subst hx hy
 congr 1
 ·grind -lia -linarith
 ·grind -lia -linarith
theorem uS {X Y Z : K} (hz : Z ≠ 0) (h : onC (nm X Y Z)) : ∃ x y, nm X Y Z = .A x y ∧ y * y = x * x * x + 7 ∧ X = x * Z ∧ Y = y * Z := by
 refine ⟨_, _, b0K hz, ?_, ?_, ?_⟩
 ·rw [b0K hz] at h; exact h
 ·have h1 := cJ hz
  generalize gE Z = u at *
  grind -lia -linarith
 ·have h1 := cJ hz
  generalize gE Z = u at *
  grind -lia -linarith
theorem b0L {X Y Z : K} (h : onC (nm X Y Z)) (hz : Z ≠ 0) (xx d e ee eee t : K) (h1 : xx = X * X) (h2 : d = 3 * xx) (h3 : e = 2 * Y * Z) (h4 : ee = e * e) (h5 : eee = ee * e) (h6 : t = d * d * Z - 2 * X * ee) :
  nm (e * t) (d * (X * ee - t) - Y * eee) (eee * Z) = cE (nm X Y Z) (nm X Y Z) := by
 obtain ⟨x, y, e0, hon, hX, hY⟩ := uS hz h
 have hy := k0f hon
 have h2y : (2 : K) * y ≠ 0 := fun h => (bE h).elim xK hy
 have hu := cJ h2y
 rw [e0, rK hon hu]
 generalize gE (2 * y) = u at *
 have he : e = (2 * y) * (Z * Z) := by rw [h3, hY]; grind -lia -linarith
 have hzz : Z * Z ≠ 0 := fun h => (bE h).elim hz hz
 have he0 : e ≠ 0 := by rw [he]; exact fun h => (bE h).elim h2y hzz
 refine g0k (by rw [h5, h4]; exact fun h => (bE h).elim (fun h => (bE h).elim (fun h => (bE h).elim he0 he0) he0) hz) ?_ ?_
 ·subst h6 h5 h4 h2 h1 hX hY
  rw [he]
  clear e0 h hon hzz h2y hy hz he0 he h3
  grind -lia -linarith
 ·subst h6 h5 h4 h2 h1 hX hY
  rw [he]
  clear e0 h hon hzz h2y hy hz he0 he h3
  grind -lia -linarith
theorem i0B {X1 Y1 Z1 X2 Y2 Z2 : K} (hp : onC (nm X1 Y1 Z1)) (hq : onC (nm X2 Y2 Z2)) (hz1 : Z1 ≠ 0) (hz2 : Z2 ≠ 0) (u v u2 v2 d e w ee eee t : K) (e1 : u = Y2 * Z1) (e2 : v = X2 * Z1) (e3 : u2 = Y1 * Z2) (e4 : v2 = X1 * Z2)
  (ed : d = u - u2) (ee' : e = v - v2) (hn : e ≠ 0) (ew : w = Z1 * Z2) (h4 : ee = e * e) (h5 : eee = ee * e) (h6 : t = d * d * w - eee - 2 * v2 * ee) :
  nm (e * t) (d * (v2 * ee - t) - u2 * eee) (eee * w) = cE (nm X1 Y1 Z1) (nm X2 Y2 Z2) := by
 obtain ⟨x1, y1, f1, o1, hX1, hY1⟩ := uS hz1 hp
 obtain ⟨x2, y2, f2, o2, hX2, hY2⟩ := uS hz2 hq
 have hzz : w ≠ 0 := by rw [ew]; exact fun h => (bE h).elim hz1 hz2
 have ehd : e = (x2 - x1) * w := by rw [ee', e2, e4, hX1, hX2, ew]; grind -lia -linarith
 have erd : d = (y2 - y1) * w := by rw [ed, e1, e3, hY1, hY2, ew]; grind -lia -linarith
 have eu : v2 = x1 * w := by rw [e4, hX1, ew]; grind -lia -linarith
 have es : u2 = y1 * w := by rw [e3, hY1, ew]; grind -lia -linarith
 have hd0 : x2 - x1 ≠ 0 := fun hh => hn (by rw [ehd, hh]; grind -lia -linarith)
 have hu := cJ hd0
 rw [f1, f2, xL o1 o2 hu]
 generalize gE (x2 - x1) = z at *
 refine g0k (by rw [h5, h4]; exact fun h => (bE h).elim (fun h => (bE h).elim (fun h => (bE h).elim hn hn) hn) hzz) ?_ ?_
 ·subst h6 h5 h4
  rw [erd, eu, ehd]
  clear e1 e2 e3 e4 ed ee' hn erd eu es ehd hX1 hX2 hY1 hY2 f1 f2 o1 o2 hp hq hz1 hz2 hd0 ew hzz
  generalize hdd : x2 - x1 = dd at *
  have hx2 : x2 = x1 + dd := by rw [← hdd]; grind -lia -linarith
  subst hx2; clear hdd
  generalize y2 - y1 = n at *
  grind -lia -linarith
 ·subst h6 h5 h4
  rw [erd, eu, ehd, es]
  clear e1 e2 e3 e4 ed ee' hn erd eu es ehd hX1 hX2 hY1 hY2 f1 f2 o1 o2 hp hq hz1 hz2 hd0 ew hzz
  generalize hdd : x2 - x1 = dd at *
  have hx2 : x2 = x1 + dd := by rw [← hdd]; grind -lia -linarith
  subst hx2; clear hdd
  generalize y2 - y1 = n at *
  grind -lia -linarith
theorem o0J {X1 Y1 Z1 X2 Y2 Z2 : K} (hp : onC (nm X1 Y1 Z1)) (hq : onC (nm X2 Y2 Z2)) (hz1 : Z1 ≠ 0) (hz2 : Z2 ≠ 0) (h : X2 * Z1 = X1 * Z2) :
  (Y2 * Z1 = Y1 * Z2 → nm X2 Y2 Z2 = nm X1 Y1 Z1) ∧ (Y2 * Z1 ≠ Y1 * Z2 → cE (nm X1 Y1 Z1) (nm X2 Y2 Z2) = .O) ∧ Y2 * Z1 ≠ 0 := by
 obtain ⟨x1, y1, f1, o1, hX1, hY1⟩ := uS hz1 hp
 obtain ⟨x2, y2, f2, o2, hX2, hY2⟩ := uS hz2 hq
 have hzz : Z1 * Z2 ≠ 0 := fun h => (bE h).elim hz1 hz2
 have hx : x2 = x1 := by
  refine dU hzz ?_
  rw [hX1, hX2] at h; grind -lia -linarith
 subst hx
 have hyy : (y2 - y1) * (y2 + y1) = 0 := by grind -lia -linarith
 refine ⟨fun hy => ?_, fun hy => ?_, fun hy => ?_⟩
 ·have : y2 = y1 := by
   refine dU hzz ?_
   rw [hY1, hY2] at hy; grind -lia -linarith
  rw [f1, f2, this]
 ·rcases bE hyy with h1 | h1
  ·exfalso
   refine hy ?_
   have e : y2 = y1 := by grind -lia -linarith
   rw [hY1, hY2, e]; grind -lia -linarith
  ·have e : y2 = -y1 := by grind -lia -linarith
   rw [f1, f2, e]
   exact fC (p := .A x2 y1)
 ·have hy2 := k0f o2
  rcases bE hy with h1 | h1
  ·rw [hY2] at h1; exact (bE h1).elim hy2 hz2
  ·exact hz1 h1
def kA : List (Nat × Pt) → Pt
 | [] => .O
 | (n, p) :: l => cE (bV n p) (kA l)
theorem uT : ∀ (l : List (Nat × Pt)), (∀ t ∈ l, onC t.2) → onC (kA l)
 | [], _ => trivial
 | (n, p) :: l, h => eL (bU (h (n, p) Ae) n) (uT l fun t ht => h t (List.mem_cons_of_mem _ ht))
def g0V (k : Nat) (l : List (Nat × Pt)) : List (Nat × Pt) := l.map fun t => (t.1 / 16 ^ k, t.2)
def dig (k n : Nat) : Nat := n / 16 ^ k % 16
theorem b0M (k : Nat) : ∀ (l : List (Nat × Pt)), (∀ t ∈ l, onC t.2) → kA (g0V k l) = cE (bV 16 (kA (g0V (k + 1) l))) (kA (l.map fun t => (dig k t.1, t.2)))
 | [], _ => (by rw [show kA (g0V (k + 1) []) = .O from rfl, xM]; rfl)
 | (n, p) :: l, h => by
  have hl : ∀ t ∈ l, onC t.2 := fun t ht => h t (List.mem_cons_of_mem _ ht)
  have hp : onC p := h (n, p) Ae
  have ih := b0M k l hl
  have hL : onC (kA (g0V (k + 1) l)) := uT _ fun t ht => by
   obtain ⟨u, hu, rfl⟩ := List.mem_map.1 ht; exact hl u hu
  have hD : onC (kA (l.map fun t => (dig k t.1, t.2))) := uT _ fun t ht => by
   obtain ⟨u, hu, rfl⟩ := List.mem_map.1 ht; exact hl u hu
  show cE (bV (n / 16 ^ k) p) (kA (g0V k l)) = cE (bV 16 (cE (bV (n / 16 ^ (k + 1)) p) (kA (g0V (k + 1) l)))) (cE (bV (dig k n) p) (kA (l.map fun t => (dig k t.1, t.2))))
  have e : n / 16 ^ k = n / 16 ^ (k + 1) * 16 + dig k n := by
   unfold dig; rw [Nat.pow_succ, ← Nat.div_div_eq_div_mul]; omega
  rw [ih, e, eB hp, iB hp, uR (bU hp _) hL]
  generalize hA : bV 16 (bV (n / 16 ^ (k + 1)) p) = a
  generalize hB : bV (dig k n) p = b
  generalize hC : bV 16 (kA (g0V (k + 1) l)) = c
  generalize hDD : kA (l.map fun t => (dig k t.1, t.2)) = d at *
  have ha : onC a := by rw [← hA]; exact bU (bU hp _) _
  have hb : onC b := by rw [← hB]; exact bU hp _
  have hc : onC c := by rw [← hC]; exact bU hL _
  rw [cF ha hb (eL hc hD), cF ha hc (eL hb hD), ← cF hb hc hD, ← cF hc hb hD, fG b c]
theorem o0K {p : Pt} (hp : onC p) : bV 16 p = cE (cE (cE (cE p p) (cE p p)) (cE (cE p p) (cE p p))) (cE (cE (cE p p) (cE p p)) (cE (cE p p) (cE p p))) := by
 have h2 : ∀ q, cE q q = bV 2 q := fun q => by show _ = cE (cE .O q) q; rfl
 have e2 : cE p p = bV 2 p := h2 p
 have e4 : cE (bV 2 p) (bV 2 p) = bV 4 p := (eB hp 2 2).symm
 have e8 : cE (bV 4 p) (bV 4 p) = bV 8 p := (eB hp 4 4).symm
 have e16 : cE (bV 8 p) (bV 8 p) = bV 16 p := (eB hp 8 8).symm
 rw [e2, e4, e8, e16]
theorem e0H {p : Pt} (hp : onC p) (n k : Nat) : bV (n / 2 ^ k) p = cE (cE (bV (n / 2 ^ (k + 1)) p) (bV (n / 2 ^ (k + 1)) p)) (if n / 2 ^ k % 2 = 1 then p else .O) := by
 have e : n / 2 ^ k = n / 2 ^ (k + 1) + n / 2 ^ (k + 1) + n / 2 ^ k % 2 := by
  rw [Nat.pow_succ, ← Nat.div_div_eq_div_mul]; omega
 have h1 : bV (n / 2 ^ k % 2) p = if n / 2 ^ k % 2 = 1 then p else .O := by
  split
  ·rename_i h; rw [h]; exact i0w p
  ·rename_i h; rw [show n / 2 ^ k % 2 = 0 by omega]; rfl
 rw [← h1, ← eB hp, ← eB hp, ← e]
end Mvq
namespace Mvq
open Mvp
def jN (x y z : Nat) : Pt := jk (kc x) (kc y) (kc z)
theorem zT (M : Nat) (hM : M = fP) (a b : Nat) : kc (a + (M - b % M)) = kc a - kc b := by subst hM; exact gW a b
theorem g0W (M : Nat) (hM : M = fP) (z : Nat) (b : Bool) (h : (z % M == 0) = b) : decide (kc z = 0) = b := by subst hM; rw [← i0A]; exact h
theorem iX : mP.M = fP := i0z
end Mvq
namespace Go.Proofs.YtemcankmggmgoaaGreat
open Go.RowKit Go.Mv Mvp Mvq
theorem b0N (x y z : Nat) (ho : onC (jN x y z)) :
  ∃ X Y Z, jN X Y Z = cE (jN x y z) (jN x y z) ∧ ∀ gc gp bx by_ wx, Has wx gc (nT mP gp bx by_) 125 → Has wx gp (mdL mP) 187 → Calls prog 158 #[.pointer (some ⟨gc, 0, none⟩), ptV mP x y z] wx fun e w' => e = .returned (ptV mP X Y Z) ∧ Fr Nob wx w' := by
 cases hb : (z % mP.M == 0)
 ·have hz : kc z ≠ 0 := by
   have := g0W _ iX z _ hb
   simpa using this
  refine ⟨_, _, _, ?_, fun gc gp bx by_ wx hcv hpm => l0j mP gc gp bx by_ wx fR hcv hpm x y z hb _ _ _ _ _ _ _ _ _ _ _ _ _ _ _ _ _ _ _ _ _ rfl rfl rfl rfl rfl rfl rfl rfl rfl rfl rfl rfl rfl rfl rfl rfl rfl rfl rfl rfl rfl⟩
  have h := i0y ho hz _ _ _ _ _ _ rfl rfl rfl rfl rfl rfl
  unfold jN at *
  rw [← h]
  simp only [zT _ iX, qT, bN]
  generalize kc x = a; generalize kc y = b; generalize kc z = c
  congr 1
  ·grind -lia -linarith
  ·grind -lia -linarith
  ·grind -lia -linarith
 ·have hz : kc z = 0 := by
   have := g0W _ iX z _ hb
   simpa using this
  refine ⟨x, y, z, ?_, fun gc gp bx by_ wx hcv hpm => c0Y mP gc gp bx by_ wx fR hcv hpm x y z hb⟩
  unfold jN
  rw [o0F hz]; rfl
end Go.Proofs.YtemcankmggmgoaaGreat
