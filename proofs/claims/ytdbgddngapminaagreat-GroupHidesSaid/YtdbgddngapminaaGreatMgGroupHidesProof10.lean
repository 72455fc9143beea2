/- A region that draws its order, by facts that stay: each operation of the front is shown once, in every world in which the facts of those that it waits for hold; then a tail; The reference's Read and Number, each as one contract; the law's told; The law SigmaExtracts; From a walk that turns nothing (Fr Nob) to what a law's row asks behind the call. -/
import Derived.Test.YtdbgddngapminaaGreatMgGroupHidesProof2
import Derived.Test.YtdbgddngapminaaGreatMgGroupHidesProof7
import Derived.Test.YtdbgddngapminaaGreatMgGroupHidesProof9
import Derived.Test.YtdbgddngapminaaGreatMgGroupHidesProof8
import Derived.Test.YtdbgddngapminaaGreatMgGroupHidesProof1
import Derived.ProofKit
import Derived.OpenShut
import Derived.Carry
namespace Go.Mv
open Go.RowKit
section
variable {P : Program} {ops : Array Oper} {md : Region.Mode} {Q : Exit → Act → World → Prop} {m : Nat} {S : Nat → Prop} {w0 : World} {tl : Pl}
/-- the values of some operations alone -/
def restr (l : List Nat) (x : Nat → Value) : Nat → Value := fun k => if l.contains k then x k else undef
theorem restr_upd {l : List Nat} {x : Nat → Value} {k : Nat} {v : Value} (h : l.contains k = false) : restr l (upd x k v) = restr l x := by
  funext j
  unfold restr
  by_cases e : l.contains j = true
  · rw [if_pos e, if_pos e, upd_other]
    cases h2 : (j == k) with
    | false => rfl
    | true => rw [eq_of_beq h2, h] at e; cases e
  · rw [if_neg e, if_neg e]
def putI (ops : Array Oper) (i : Nat) (a : Act) (v : Value) : Act := match ops[i]? with | some o => a.put o.dst v | none => a
theorem putI_some {i : Nat} {o : Oper} (ho : ops[i]? = some o) (a : Act) (v : Value) : putI ops i a v = a.put o.dst v := by unfold putI; rw [ho]
def puts (ops : Array Oper) : List Nat → Act → (Nat → Value) → Act
  | [], a, _ => a
  | i :: s, a, x => puts ops s (putI ops i a (x i)) x
theorem puts_comm {d : Option Tmp} {v : Value} (x : Nat → Value) : ∀ (s : List Nat) (a : Act), (∀ k ∈ s, ∀ ok, ops[k]? = some ok → ok.dst ≠ d ∨ ok.dst = none) → (puts ops s a x).put d v = puts ops s (a.put d v) x
  | [], _, _ => rfl
  | i :: s, a, h => by
    unfold puts
    rw [puts_comm x s _ fun k hk => h k (List.mem_cons_of_mem _ hk)]
    congr 1
    cases ho : ops[i]? with
    | none => unfold putI; simp only [ho]
    | some o => rw [putI_some ho, putI_some ho, put_comm _ _ _ _ _ (h i List.mem_cons_self o ho)]
theorem puts_upd {i : Nat} {v : Value} (x : Nat → Value) : ∀ (s : List Nat) (a : Act), i ∉ s → puts ops s a (upd x i v) = puts ops s a x
  | [], _, _ => rfl
  | j :: s, a, h => by
    simp only [List.mem_cons, not_or] at h
    unfold puts
    rw [puts_upd x s _ h.2, upd_other _ _ _ _ (by simpa using fun e => h.1 e.symm)]
/-- no two of them have one slot -/
def Apd (ops : Array Oper) (s : List Nat) : Prop := ∀ j ∈ s, ∀ k ∈ s, j ≠ k → ∀ oj ok, ops[j]? = some oj → ops[k]? = some ok → ok.dst ≠ oj.dst ∨ ok.dst = none
theorem Apd.tail {i : Nat} {s : List Nat} (h : Apd ops (i :: s)) : Apd ops s := fun j hj k hk => h j (List.mem_cons_of_mem _ hj) k (List.mem_cons_of_mem _ hk)
theorem puts_put {i : Nat} {v : Value} {o : Oper} (ho : ops[i]? = some o) (x : Nat → Value) : ∀ (s : List Nat) (a : Act), i ∈ s → s.Nodup → Apd ops s → (puts ops s a x).put o.dst v = puts ops s a (upd x i v)
  | [], _, h, _, _ => by cases h
  | j :: s, a, h, hn, hd => by
    rw [List.nodup_cons] at hn
    by_cases e : i = j
    · subst e
      unfold puts
      rw [puts_comm x s _ fun k hk ok hok => hd i List.mem_cons_self k (List.mem_cons_of_mem _ hk) (fun e => hn.1 (e ▸ hk)) o ok ho hok]
      rw [putI_some ho, putI_some ho, put_twice, puts_upd x s _ hn.1, upd_same]
    · have hi : i ∈ s := by
        rcases List.mem_cons.1 h with h | h
        · exact absurd h e
        · exact h
      unfold puts
      rw [puts_put ho x s _ hi hn.2 hd.tail, upd_other _ _ _ _ (by simpa using fun h => e h.symm)]
theorem puts_back : ∀ (s : List Nat) (a : Act), s.Nodup → ∃ x, puts ops s a x = a
  | [], _, _ => ⟨fun _ => undef, rfl⟩
  | i :: s, a, hn => by
    rw [List.nodup_cons] at hn
    obtain ⟨x, hx⟩ := puts_back s a hn.2
    cases ho : ops[i]? with
    | none => exact ⟨x, by unfold puts putI; simp only [ho]; exact hx⟩
    | some o =>
      obtain ⟨u, hu⟩ := put_back a o.dst
      refine ⟨upd x i u, ?_⟩
      unfold puts
      rw [putI_some ho, upd_same, hu, puts_upd x s _ hn.1, hx]
def apdB (ops : Array Oper) (s : List Nat) : Bool := s.all fun j => s.all fun k => j == k || match ops[j]?, ops[k]? with | some a, some b => decide (b.dst ≠ a.dst) || decide (b.dst = none) | _, _ => false
theorem apdB_spec {s : List Nat} (h : apdB ops s = true) : Apd ops s := by
  intro j hj k hk hne oj ok hoj hok
  have := List.all_eq_true.1 (List.all_eq_true.1 h j hj) k hk
  simp only [hoj, hok, Bool.or_eq_true, beq_iff_eq, decide_eq_true_eq] at this
  rcases this with h | h
  · exact absurd h hne
  · exact h
def nodupB : List Nat → Bool
  | [] => true
  | i :: s => !s.contains i && nodupB s
theorem nodupB_spec : ∀ {s : List Nat}, nodupB s = true → s.Nodup
  | [], _ => List.nodup_nil
  | i :: s, h => by
    simp only [nodupB, Bool.and_eq_true, Bool.not_eq_true'] at h
    exact List.nodup_cons.2 ⟨by simpa using h.1, nodupB_spec h.2⟩
/-- what is asked of the numbers -/
def posOk (md : Region.Mode) (ops : Array Oper) (m : Nat) (F Lz : List Nat) (pre : Nat → List Nat) (tl : Pl) : Bool :=
  (Lz.all fun i => match ops[i]? with | some o => decide (i ≠ m) && (List.range ops.size).all fun j => j == i || ancB md ops i ops.size j || (match ops[j]? with | some oj => (oj.after.any fun e => Region.binds md e && e.on == i) || o.apart ops oj | none => true) | none => false) && nodupB F && apdB ops F &&
  (F.all fun i => match ops[i]? with | some o => o.guard.isNone && o.after.all fun e => !Region.binds md e || (F.contains e.on && decide (e.on < i)) | none => false) &&
  (F.all fun i => (pre i).all fun j => F.contains j && ancB md ops i ops.size j) &&
  ((List.range ops.size).all fun t => F.contains t || F.all fun i => Lz.contains i || ancB md ops t ops.size i) &&
  planOk md ops m tl (mark (Array.replicate ops.size false) F)
/-- what is asked of an operation: loose ones (taken as soon as they can come) only yield -/
def Obl (P : Program) (Q : Exit → Act → World → Prop) (G : World → Prop) (A : (Nat → Value) → Act) (pre : Nat → List Nat) (Φ : Nat → (Nat → Value) → World → Prop) (i : Nat) (o : Oper) : Bool → Prop
  | false => ∀ x w, G w → (∀ j ∈ pre i, Φ j (restr (j :: pre j) x) w) → o.wp P (A x) w (fun a' w' => ∃ v, a' = (A x).put o.dst v ∧ Fr Nob w w' ∧ Φ i (restr (i :: pre i) (upd x i v)) w') Q
  | true => ∀ x w, G w → (∀ j ∈ pre i, Φ j (restr (j :: pre j) x) w) → ∃ v, (∀ wx, (execOp (A x).eval o).run P wx = .ok (.value v) wx) ∧ Φ i (restr (i :: pre i) (upd x i v)) w
/-- what is asked of each operation -/
def Obls (P : Program) (ops : Array Oper) (Q : Exit → Act → World → Prop) (G : World → Prop) (A : (Nat → Value) → Act) (pre : Nat → List Nat) (Φ : Nat → (Nat → Value) → World → Prop) (Lz : List Nat) : List Nat → Prop
  | [] => True
  | i :: s => ((∀ o, ops[i]? = some o → Obl P Q G A pre Φ i o (Lz.contains i)) ∧
      ∀ y w w', Φ i (restr (i :: pre i) y) w → Fr Nob w w' → Φ i (restr (i :: pre i) y) w') ∧ Obls P ops Q G A pre Φ Lz s
theorem Obls.at {G : World → Prop} {A : (Nat → Value) → Act} {pre : Nat → List Nat} {Φ : Nat → (Nat → Value) → World → Prop} {Lz : List Nat} : ∀ {s : List Nat}, Obls P ops Q G A pre Φ Lz s → ∀ i ∈ s, (∀ o, ops[i]? = some o → Obl P Q G A pre Φ i o (Lz.contains i)) ∧
      ∀ y w w', Φ i (restr (i :: pre i) y) w → Fr Nob w w' → Φ i (restr (i :: pre i) y) w'
  | [], _, _, h => by cases h
  | _ :: _, h, i, hi => by
    rcases List.mem_cons.1 hi with rfl | hi
    · exact h.1
    · exact Obls.at h.2 i hi
/-- what is listed has what it waits for listed -/
theorem anc_listed {listed : Array Bool} (inv : Cl md ops listed) {k : Nat} : ∀ (f i : Nat), ancB md ops k f i = true → listed.getD k false = true → listed.getD i true = false → False
  | 0, i, h, _, _ => by cases h
  | f + 1, i, h, hk, hun => by
    obtain ⟨j, hj, hj2⟩ := List.any_eq_true.1 h
    simp only [Bool.and_eq_true, Bool.or_eq_true, decide_eq_true_eq] at hj2
    obtain ⟨oj, hoj, e, he, hb, hon⟩ := Region.waitsFor_spec hj2.1
    have hjl : listed.getD j false = true := by
      rcases hj2.2 with rfl | hja
      · exact hk
      · cases hl : listed.getD j false with
        | true => rfl
        | false =>
          have hjs : j < listed.size := by rw [inv.size]; exact (Array.getElem?_eq_some_iff.1 hoj).1
          exact (anc_listed inv f j hja hk (getD_in hjs hl)).elim
    have h2 := inv.closed j oj hoj hjl e he hb
    rw [hon, getD_both hun] at h2
    cases h2
def unl (F : List Nat) (listed : Array Bool) : List Nat := F.filter fun k => !listed.getD k false
theorem unl_set {F : List Nat} {listed : Array Bool} {i : Nat} (hi : i < listed.size) : unl F (listed.setIfInBounds i true) = (unl F listed).filter (· != i) := by
  unfold unl
  rw [List.filter_filter]
  refine List.filter_congr fun k _ => ?_
  by_cases e : i = k
  · subst e; simp [hi]
  · rw [getD_set_ne false e]
    have h2 : (k != i) = true := by simpa using fun h => e h.symm
    rw [h2, Bool.true_and]
theorem wpP_of_pos {G : World → Prop} {F Lz : List Nat} {a : Act} {pre : Nat → List Nat} {Φ : Nat → (Nat → Value) → World → Prop} (hsel : Region.noSelect ops = true) (hm : m < ops.size) (hQ : ∀ c (d : Option Tmp) v a w, Q (.panic c) (Act.put a d v) w → Q (.panic c) a w)
    (hok : posOk md ops m F Lz pre tl = true) (hG : ∀ w w', G w → Fr Nob w w' → G w') (hob : Obls P ops Q G (puts ops F a) pre Φ Lz F)
    (hend : ∀ x w, G w → (∀ i ∈ F, Φ i (restr (i :: pre i) x) w) → wpPlan P ops Q (fun _ => True) tl (puts ops F a x) w) :
    ∀ (N : Nat) (listed : Array Bool) (x : Nat → Value) (w : World), (unl F listed).length = N → listed.size = ops.size → Cl md ops listed → (∀ k, listed.getD k false = true → k ∈ F) → G w → (∀ i ∈ F, listed.getD i false = true → Φ i (restr (i :: pre i) x) w) →
      wpP P md ops Q (fun _ => True) m (N + tl.len) listed (puts ops F a x) w := by
  simp only [posOk, Bool.and_eq_true] at hok
  obtain ⟨⟨⟨⟨⟨⟨hlz, hnd⟩, hap⟩, haf⟩, hpre⟩, htl⟩, hpl⟩ := hok
  have hnd := nodupB_spec hnd
  have hap := apdB_spec hap
  have hF : ∀ i ∈ F, ∃ o, ops[i]? = some o ∧ o.guard = none ∧ ∀ e ∈ o.after, Region.binds md e = true → e.on ∈ F ∧ e.on < i := by
    intro i hi
    have := List.all_eq_true.1 haf i hi
    cases ho : ops[i]? with
    | none => simp only [ho] at this; cases this
    | some o =>
      simp only [ho, Bool.and_eq_true] at this
      refine ⟨o, rfl, by simpa using this.1, fun e he hb => ?_⟩
      have h2 := Array.all_eq_true'.1 this.2 e he
      simpa [hb] using h2
  have hlt : ∀ i ∈ F, i < ops.size := fun i hi => by obtain ⟨o, ho, _⟩ := hF i hi; exact (Array.getElem?_eq_some_iff.1 ho).1
  intro N
  induction N with
  | zero =>
    intro listed x w hu hsz inv hLF hGw hfacts
    have hall : ∀ i ∈ F, listed.getD i false = true := by
      intro i hi
      cases h : listed.getD i false with
      | true => rfl
      | false =>
        have : i ∈ unl F listed := List.mem_filter.2 ⟨hi, by simp [h]⟩
        rw [List.eq_nil_of_length_eq_zero hu] at this
        cases this
    have he : listed = mark (Array.replicate ops.size false) F := by
      refine arr_ext (by simp [mark_size, hsz]) fun k hk => ?_
      rw [mark_get _ _ _ (by simpa [hsz] using hk)]
      have hk' : k < listed.size := hk
      by_cases hkF : k ∈ F
      · have h3 : listed.getD k true = true := by
          cases h : listed.getD k true with
          | true => rfl
          | false => have := hall k hkF; rw [getD_both h] at this; cases this
        rw [h3]; simp [hkF]
      · cases h : listed.getD k true with
        | true =>
          have h2 : listed.getD k false = true := by simpa [hk'] using h
          exact absurd (hLF k h2) hkF
        | false => simp [hkF, hsz ▸ hk']
    have := wpP_of_plan (md := md) (S := fun _ => True) hsel hm hQ tl listed (puts ops F a x) w inv (by rw [he]; exact hpl) (fun _ => trivial) (hend x w hGw fun i hi => hfacts i hi (hall i hi))
    simpa using this
  | succ N ih =>
    intro listed x w hu hsz inv hLF hGw hfacts
    -- something of the front can come
    have hsome : ∀ (b i : Nat), i < b → i ∈ F → listed.getD i false = false → ∃ k ∈ F, listed.getD k false = false ∧ k ∈ Region.ready md ops listed := by
      intro b
      induction b with
      | zero => intro i h; omega
      | succ b ihb =>
        intro i hib hi hun
        obtain ⟨o, ho, hg, hafter⟩ := hF i hi
        by_cases hall : ∀ e ∈ o.after, Region.binds md e = true → listed.getD e.on false = true
        · exact ⟨i, hi, hun, mem_ready.2 ⟨getD_in (by rw [hsz]; exact hlt i hi) hun, o, ho, hall⟩⟩
        · simp only [Classical.not_forall] at hall
          obtain ⟨e, he, hb, hl⟩ := hall
          obtain ⟨h1, h2⟩ := hafter e he hb
          exact ihb e.on (by omega) h1 (by simpa using hl)
    have hex : ∃ i, i ∈ F ∧ listed.getD i false = false := by
      cases h : unl F listed with
      | nil => rw [h] at hu; cases hu
      | cons i s =>
        have : i ∈ unl F listed := by rw [h]; exact List.mem_cons_self
        obtain ⟨h1, h2⟩ := List.mem_filter.1 this
        exact ⟨i, h1, by simpa using h2⟩
    obtain ⟨i00, hi00, hun00⟩ := hex
    obtain ⟨i0, hi0, hun0, hr0⟩ := hsome (i00 + 1) i00 (Nat.lt_succ_self _) hi00 hun00
    have e1 : N + 1 + tl.len = (N + tl.len) + 1 := by omega
    rw [e1]
    have hprel : ∀ i ∈ F, i ∈ Region.ready md ops listed → ∀ j ∈ pre i, j ∈ F ∧ listed.getD j false = true := by
      intro i hiF hi j hj
      have h := List.all_eq_true.1 (List.all_eq_true.1 hpre i hiF) j hj
      simp only [Bool.and_eq_true] at h
      have hjF : j ∈ F := by simpa using h.1
      refine ⟨hjF, ?_⟩
      cases hl : listed.getD j false with
      | true => rfl
      | false => exact absurd hi (anc_waits inv _ _ h.2 (getD_in (by rw [hsz]; exact hlt j hjF) hl))
    -- the state behind one of the front
    have next : ∀ i ∈ F, i ∈ Region.ready md ops listed → ∀ o, ops[i]? = some o → ∀ v w', Fr Nob w w' → Φ i (restr (i :: pre i) (upd x i v)) w' →
        wpP P md ops Q (fun _ => True) m (N + tl.len) (listed.setIfInBounds i true) ((puts ops F a x).put o.dst v) w' := by
      intro i hiF hi o ho v w' hfr hΦ
      obtain ⟨hiun, _⟩ := mem_ready.1 hi
      rw [puts_put ho x F a hiF hnd hap]
      have hil : i < listed.size := by rw [hsz]; exact hlt i hiF
      refine ih (listed.setIfInBounds i true) (upd x i v) w' ?_ (by simpa using hsz) (inv.set hi) ?_ (hG w w' hGw hfr) ?_
      · rw [unl_set hil]
        have hmem : i ∈ unl F listed := List.mem_filter.2 ⟨hiF, by
          cases h : listed.getD i false with
          | false => rfl
          | true => rw [getD_both hiun] at h; cases h⟩
        have := len_filter (l := unl F listed) (nd_filter hnd _) hmem
        omega
      · intro k hk
        by_cases e : i = k
        · subst e; exact hiF
        · rw [getD_set_ne false e] at hk; exact hLF k hk
      · intro k hkF hk
        by_cases e : i = k
        · subst e; exact hΦ
        · rw [getD_set_ne false e] at hk
          have h1 := (hob.at k hkF).2 _ _ _ (hfacts k hkF hk) hfr
          rwa [restr_upd]
          cases h : (k :: pre k).contains i with
          | false => rfl
          | true =>
            exfalso
            have hm : i ∈ k :: pre k := by simpa using h
            rcases List.mem_cons.1 hm with h2 | h2
            · exact e h2
            · have h3 := List.all_eq_true.1 (List.all_eq_true.1 hpre k hkF) i h2
              simp only [Bool.and_eq_true] at h3
              exact anc_listed inv _ _ h3.2 hk hiun
    by_cases hlo : ∃ i ∈ F, i ∈ Region.ready md ops listed ∧ i ∈ Lz
    · -- a loose one is taken at once
      obtain ⟨i, hiF, hir, hiL⟩ := hlo
      obtain ⟨o, ho, hg, -⟩ := hF i hiF
      have hO := (hob.at i hiF).1 o ho
      rw [show Lz.contains i = true by simpa using hiL] at hO
      obtain ⟨v, hv, hΦ⟩ := hO x w hGw fun j hj => hfacts j (hprel i hiF hir j hj).1 (hprel i hiF hir j hj).2
      have hl := List.all_eq_true.1 hlz i hiL
      simp only [ho, Bool.and_eq_true, decide_eq_true_eq] at hl
      refine wpP_takeW ho (Region.noSelect_spec hsel) (fun c a w => hQ c o.dst v a w) hl.1 hm (N + tl.len) listed (puts ops F a x) w inv ?_ hir (.inl ⟨by simp [Region.wanted, hg], fun wx _ => hv wx⟩) (fun _ => trivial) (next i hiF hir o ho v w (Fr.refl _ _) hΦ)
      intro j oj hoj hji hjun hno
      have h := List.all_eq_true.1 hl.2 j (List.mem_range.2 (Array.getElem?_eq_some_iff.1 hoj).1)
      simp only [hoj, Bool.or_eq_true, beq_iff_eq] at h
      rcases h with (h | h) | h | h
      · exact absurd h hji
      · exact absurd hir (anc_waits inv _ _ h hjun)
      · obtain ⟨k, hk, h2⟩ := Array.any_eq_true.1 h
        simp only [Bool.and_eq_true, beq_iff_eq] at h2
        exact absurd h2.2 (hno _ (Array.getElem_mem hk) h2.1)
      · exact h
    refine ⟨fun h => (by rw [h] at hr0; cases hr0), fun i hi => ?_⟩
    obtain ⟨hiun, oi, hoi, hiall⟩ := mem_ready.1 hi
    have hisz : i < ops.size := (Array.getElem?_eq_some_iff.1 hoi).1
    have hiF : i ∈ F := by
      have h := List.all_eq_true.1 htl i (List.mem_range.2 hisz)
      simp only [Bool.or_eq_true] at h
      rcases h with h | h
      · simpa using h
      · have h2 := List.all_eq_true.1 h i0 hi0
        simp only [Bool.or_eq_true] at h2
        rcases h2 with h2 | h2
        · exact absurd ⟨i0, hi0, hr0, by simpa using h2⟩ hlo
        · exact absurd hi (anc_waits inv _ _ h2 (getD_in (by rw [hsz]; exact hlt i0 hi0) hun0))
    obtain ⟨o, ho, hg, -⟩ := hF i hiF
    have hO := (hob.at i hiF).1 o ho
    have hnl : Lz.contains i = false := by
      cases h : Lz.contains i with
      | false => rfl
      | true => exact absurd ⟨i, hiF, hi, by simpa using h⟩ hlo
    rw [hnl] at hO
    refine wpOp_one ho hg (Oper.wp_mono (fun a' w' h' => ?_) (hO x w hGw fun j hj => hfacts j (hprel i hiF hi j hj).1 (hprel i hiF hi j hj).2))
    obtain ⟨v, rfl, hfr, hΦ⟩ := h'
    exact ⟨fun _ _ => trivial, next i hiF hi o ho v w' hfr hΦ⟩
/-- THE BEGINNING -/
theorem wp_region_pos {id : Nat} {a : Act} {w : World} {l : List Oper} (G : World → Prop) (F Lz : List Nat) (pre : Nat → List Nat) (Φ : Nat → (Nat → Value) → World → Prop) (m : Nat) (tl : Pl) (hm : P.follows .mixedOrders = true)
    (hB : (Region.noSelect l.toArray && decide (m < l.toArray.size) && decide (F.length + tl.len = l.toArray.size) && posOk .any l.toArray m F Lz pre tl) = true)
    (hQ : ∀ c (d : Option Tmp) v a w, Q (.panic c) (Act.put a d v) w → Q (.panic c) a w) (hG0 : G w.drew) (hG : ∀ w w', G w → Fr Nob w w' → G w') (hob : Obls P l.toArray Q G (puts l.toArray F a) pre Φ Lz F)
    (hend : ∀ x w, G w → (∀ i ∈ F, Φ i (restr (i :: pre i) x) w) → wpPlan P l.toArray Q (fun _ => True) tl (puts l.toArray F a x) w) : (Code.region id l.toArray true).wp P Q a w := by
  simp only [Bool.and_eq_true, decide_eq_true_eq] at hB
  obtain ⟨⟨⟨hsel, hms⟩, hlen⟩, hok⟩ := hB
  have inv0 : Cl .any l.toArray (Array.replicate l.toArray.size false) :=
    ⟨by simp, fun j oj _ hl => (by rw [getD_replicate_false] at hl; cases hl)⟩
  have hnd : F.Nodup := by
    have h := hok
    simp only [posOk, Bool.and_eq_true] at h
    exact nodupB_spec h.1.1.1.1.1.2
  obtain ⟨x0, hx0⟩ := puts_back (ops := l.toArray) F a hnd
  have hul : unl F (Array.replicate l.toArray.size false) = F := by
    unfold unl
    exact List.filter_eq_self.2 fun k _ => by rw [getD_replicate_false]; rfl
  have H := wpP_of_pos (md := .any) hsel hms hQ hok hG hob hend F.length (Array.replicate l.toArray.size false) x0 w.drew (by rw [hul]) (by simp) inv0 (fun k hk => by rw [getD_replicate_false] at hk; cases hk) hG0 (fun i _ hk => by rw [getD_replicate_false] at hk; cases hk)
  rw [hx0, hlen] at H
  exact wp_region_any hm (wpAny_of_P _ _ _ _ H)
/-- the same, the act spelled -/
theorem wp_region_posA {id : Nat} {a : Act} {w : World} {l : List Oper} (G : World → Prop) (F Lz : List Nat) (pre : Nat → List Nat) (Φ : Nat → (Nat → Value) → World → Prop) (m : Nat) (tl : Pl) (A : (Nat → Value) → Act) (hA : ∀ x, puts l.toArray F a x = A x) (hm : P.follows .mixedOrders = true)
    (hB : (Region.noSelect l.toArray && decide (m < l.toArray.size) && decide (F.length + tl.len = l.toArray.size) && posOk .any l.toArray m F Lz pre tl) = true)
    (hQ : ∀ c (d : Option Tmp) v a w, Q (.panic c) (Act.put a d v) w → Q (.panic c) a w) (hG0 : G w.drew) (hG : ∀ w w', G w → Fr Nob w w' → G w') (hob : Obls P l.toArray Q G A pre Φ Lz F)
    (hend : ∀ x w, G w → (∀ i ∈ F, Φ i (restr (i :: pre i) x) w) → wpPlan P l.toArray Q (fun _ => True) tl (A x) w) : (Code.region id l.toArray true).wp P Q a w := by
  obtain rfl : (puts l.toArray F a) = A := funext hA
  exact wp_region_pos G F Lz pre Φ m tl hm hB hQ hG0 hG hob hend
theorem obls_cons {G : World → Prop} {A : (Nat → Value) → Act} {pre : Nat → List Nat} {Φ : Nat → (Nat → Value) → World → Prop} {Lz : List Nat} {i : Nat} {s : List Nat} {o : Oper} (ho : ops[i]? = some o) (hl : Lz.contains i = false)
    (h : ∀ x w, G w → (∀ j ∈ pre i, Φ j (restr (j :: pre j) x) w) → o.wp P (A x) w (fun a' w' => ∃ v, a' = (A x).put o.dst v ∧ Fr Nob w w' ∧ Φ i (restr (i :: pre i) (upd x i v)) w') Q)
    (hm : ∀ y w w', Φ i (restr (i :: pre i) y) w → Fr Nob w w' → Φ i (restr (i :: pre i) y) w') (hs : Obls P ops Q G A pre Φ Lz s) : Obls P ops Q G A pre Φ Lz (i :: s) :=
  ⟨⟨fun o' ho' => by
    obtain rfl : o = o' := Option.some.inj (ho.symm.trans ho')
    rw [hl]
    exact h, hm⟩, hs⟩
theorem obls_loose {G : World → Prop} {A : (Nat → Value) → Act} {pre : Nat → List Nat} {Φ : Nat → (Nat → Value) → World → Prop} {Lz : List Nat} {i : Nat} {s : List Nat} {o : Oper} (ho : ops[i]? = some o) (hl : Lz.contains i = true)
    (h : ∀ x w, G w → (∀ j ∈ pre i, Φ j (restr (j :: pre j) x) w) → ∃ v, (∀ wx, (execOp (A x).eval o).run P wx = .ok (.value v) wx) ∧ Φ i (restr (i :: pre i) (upd x i v)) w)
    (hm : ∀ y w w', Φ i (restr (i :: pre i) y) w → Fr Nob w w' → Φ i (restr (i :: pre i) y) w') (hs : Obls P ops Q G A pre Φ Lz s) : Obls P ops Q G A pre Φ Lz (i :: s) :=
  ⟨⟨fun o' ho' => by
    obtain rfl : o = o' := Option.some.inj (ho.symm.trans ho')
    rw [hl]
    exact h, hm⟩, hs⟩
variable {o : Oper} {a : Act} {w : World} {Ψ : Value → World → Prop}
/-- a yield -/
theorem pos_v {v : Value} (h : (execOp a.eval o).run P w = .ok (.value v) w) (hΨ : Ψ v w) : o.wp P a w (fun a' w' => ∃ v, a' = a.put o.dst v ∧ Fr Nob w w' ∧ Ψ v w') Q := by
  unfold Oper.wp
  rw [h]
  exact ⟨v, rfl, Fr.refl _ _, hΨ⟩
/-- a maker -/
theorem pos_mk {v : Nat → Value} {L : List Value} {T : TypeId} (hk : Mk P (execOp a.eval o) v L T) (h : ∀ g w', Fr Nob w w' → w.heap.size ≤ g → Has w' g L T → Ψ (v g) w') : o.wp P a w (fun a' w' => ∃ v, a' = a.put o.dst v ∧ Fr Nob w w' ∧ Ψ v w') Q := by
  obtain ⟨g, w', hr, hf, hle, hg⟩ := hk w
  unfold Oper.wp
  rw [hr]
  exact ⟨v g, rfl, hf, h g w' hf hle hg⟩
theorem pos_rows {t e : TypeId} {k : Nat} {parts : Array (Nat × Operand)} (hop : o.op = .buildSlice t k parts) (hu : P.underlying t = some (.slice e)) {z : Value} {sz by_ : Nat} (hi0 : (P.info? e).map (fun i => (i.zero, i.size, i.bytes)) = some (some z, sz, by_))
    (vs : List Value) (hp : (parts.toList.map fun p => (p.1, a.eval p.2)) = (vs.zipIdx 0).map fun x => (x.2, x.1)) (hv : ∀ v ∈ vs, v.cells.size = sz) (hk : vs.length = k) (L : List Value) (hL : (vs.flatMap fun v => v.cells.toList) = L)
    (h : ∀ g w', Fr Nob w w' → w.heap.size ≤ g → Has w' g L e → Ψ (.slice (some ⟨g, 0, none⟩) k k) w') (hk0 : 0 < k * sz := by decide) (hk24 : k * sz ≤ 16777216 := by decide) : o.wp P a w (fun a' w' => ∃ v, a' = a.put o.dst v ∧ Fr Nob w w' ∧ Ψ v w') Q :=
  pos_mk (v := fun g => .slice (some ⟨g, 0, none⟩) k k) (by unfold execOp; simp only [hop]; rw [parts_arr hp]; exact mk_rows hu hi0 vs rfl hv hk L hL hk0 hk24) h
theorem pos_alloc {e : TypeId} {z : Value} (hop : o.op = .alloc e) (hi : (P.info? e).map (·.zero) = some (some z)) (L : List Value) (hL : z.cells.toList = L)
    (h : ∀ g w', Fr Nob w w' → w.heap.size ≤ g → Has w' g L e → Ψ (.pointer (some ⟨g, 0, none⟩)) w') : o.wp P a w (fun a' w' => ∃ v, a' = a.put o.dst v ∧ Fr Nob w w' ∧ Ψ v w') Q :=
  pos_mk (v := fun g => .pointer (some ⟨g, 0, none⟩)) (mk_alloc hi hop L hL) h
/-- a call -/
theorem pos_go {f : FuncId} {xs : Array Operand} {ats : Array TypeId} (hop : o.op = .call { callee := .value (.func f), args := xs, argTypes := ats }) (hcl : ∀ us w, (callFunc f us).run P w = .ok (.enter f us) w)
    {vs : List Value} (hargs : xs.toList.map a.eval = vs) (h : Calls P f vs.toArray w fun e w' => ∃ v, e = .returned v ∧ Fr Nob w w' ∧ Ψ v w') : o.wp P a w (fun a' w' => ∃ v, a' = a.put o.dst v ∧ Fr Nob w w' ∧ Ψ v w') Q :=
  wp_go hop hcl hargs (h.mono fun _ _ ⟨v, h1, h2, h3⟩ => ⟨v, h1, v, rfl, h2, h3⟩)
end
end Go.Mv

/- The reference's Read and Number, each as one contract; the law's told. -/
namespace Go.Proofs.YtdbgddngapminaaGreat
open Go.RowKit Go.Mv Mvp Mvq
theorem RNumQ_u (s : ByteArray) (w : World) : Calls Tryz.prog 15 #[fv mQ.M, .string s] w fun e w' => ∃ N : Nat, e = .returned (.tuple #[i4 N, .bool (numB mQ s.data.toList)]) ∧ (numB mQ s.data.toList = true → N = beN s.data.toList) ∧ Fr Nob w w' := by
  cases h : numB mQ s.data.toList
  · exact (Number_f mQ mQ_ok.lt s w h).mono fun e w' ⟨N, k1, k2⟩ => ⟨N, k1, fun h => (by cases h), k2⟩
  · exact (Number_t mQ mQ_ok.lt s w h).mono fun e w' k => ⟨_, k.1, fun _ => rfl, k.2⟩
theorem RQ_u (w : World) : Calls Tryz.prog 14 #[] w fun e w' => e = .returned (fv mQ.M) ∧ Fr Nob w w' := Q_any mQ .one w
theorem told3_ok (v : Value) (l : List UInt8) (w : World) (hb : BPart w v l) :
    Calls Tryz.prog 17 #[v, .int .i64 0, .int .i64 0, .string (mkS l)] w fun e w' => e = .returned (.bool true) ∧ Fr Nob w w' := by
  obtain ⟨a, n, c, rfl, -, hrd⟩ := hb
  have hs := fun wx (h : Fr Nob w wx) => run_string (P := Tryz.prog) (hrd.still h) c Tryz.underlying22 Tryz.underlying5 Tryz.underlying9
  have hs0 := hs _ (Fr.refl _ _)
  clear hs hrd
  go_enter Tryz.func17, Tryz.ntmps17
  go_wp2_with fail
  go_ret
  exact ⟨rfl, Fr.refl _ _⟩
theorem told3_bad (v : Value) (w : World) (c : Int) (s : ByteArray) (hb : BPart w v []) (hc : (c != 0) = true) :
    Calls Tryz.prog 17 #[v, .int .i64 c, .int .i64 c, .string s] w fun e w' => e = .returned (.bool true) ∧ Fr Nob w w' := by
  obtain ⟨a, n, d, rfl, -, hrd⟩ := hb
  obtain rfl : n = 0 := hrd.len.symm
  go_enter Tryz.func17, Tryz.ntmps17
  go_wp2_with fail
  go_ret
  exact ⟨rfl, Fr.refl _ _⟩
theorem told3_u (v : Value) (l : List UInt8) (c e : Int) (s : ByteArray) (w : World) (hb : BPart w v l) (h : (e = 0 ∧ c = 0 ∧ s = mkS l) ∨ ((e != 0) = true ∧ c = e ∧ l = [])) :
    Calls Tryz.prog 17 #[v, .int .i64 c, .int .i64 e, .string s] w fun e w' => e = .returned (.bool true) ∧ Fr Nob w w' := by
  rcases h with ⟨rfl, rfl, rfl⟩ | ⟨h1, rfl, rfl⟩
  · exact told3_ok v l w hb
  · exact told3_bad v w c s hb h1
theorem t_ok {lk la : List UInt8} (hk : numB mQ lk = true) (ha : rdOk la = true) : tC lk la = 0 ∧ tS lk la = wrPt (pmul (beN lk) (rdPt la)) := by unfold tC tS; rw [hk, ha]; exact ⟨rfl, rfl⟩
end Go.Proofs.YtdbgddngapminaaGreat

/- The law SigmaExtracts. -/
namespace Mvp
end Mvp
namespace Go.Proofs.YtdbgddngapminaaGreat
open Go.RowKit Go.Mv Mvp
theorem BPart.ofOwn {w : World} {base : Nat} {v : Value} {n : Nat} {l : List UInt8} (h : Own w base 5 1 v n (bs l)) : BPart w v l := by
  obtain ⟨a, c, rfl, hc, hr, -⟩ := h.form
  exact ⟨a, n, c, rfl, hc, by rw [Nat.mul_one] at hr; exact hr⟩
attribute [local irreducible] limbs lw mix cw cSub cAdd cMul foldC valFrom beN laid be32 powm montT mstep elN mdL numB
end Go.Proofs.YtdbgddngapminaaGreat

/- From a walk that turns nothing (Fr Nob) to what a law's row asks behind the call. -/
namespace Go.Mv
open Go.RowKit Go.ChangeShapes Go.WideShapes

/-- the arguments read behind the call as they read before -/
theorem Below.trodAll {H : Type} {enc : TypeId × Value → H} {P : Program} (hl : laidOutB P = true) {W W' : World} (hb : Below W.heap.size W W') :
    ∀ (ts : List TypeId) (vs : List Value) (ds : List (DataW H)) (ps : List MemPlace), (∀ t ∈ ts, P.readableRec t = true ∧ t < P.types.size) → DataW.TrodAll enc P W 0 (fun _ => true) true ts vs ds ps → (∀ x ∈ ps, x.block < W.heap.size) →
      DataW.TrodAll enc P W' 0 (fun b => decide (b < W.heap.size)) true ts vs ds ps
  | [], vs, ds, ps, _, h, _ => by
    obtain ⟨rfl, rfl, rfl⟩ := trodAll_nil h
    exact trodAll_mk0
  | t :: ts, vs, ds, ps, hr, h, hlt => by
    obtain ⟨v, vs', d, ds', p, q, rfl, rfl, rfl, h0, hs⟩ := trodAll_cons h
    have h1 := hr t (by simp)
    exact trodAll_cons_mk (Below.trod hl h1.1 h1.2 h0 hb (fun x hx => hlt x (by simp [hx]))) (Below.trodAll hl hb ts vs' ds' q (fun t ht => hr t (by simp [ht])) hs (fun x hx => hlt x (by simp [hx])))

/-- what a law's row asks behind the call -/
theorem law_post {H : Type} {enc : TypeId × Value → H} {P : Program} {f : Func} {s : ChangeSpec} {W W' : World} {args : Array Value} {ds gs : List (DataW H)} {before : List MemPlace}
    (hl : laidOutB P = true) (hr : ∀ t ∈ f.params.toList, P.readableRec t = true ∧ t < P.types.size) (hW : DataW.Whole enc P f.params.toList s.vars false W args.toList ds gs before)
    (hv : s.vars = []) (hres : (s.fn H (ds ++ gs)).results = [.lit (.bool true)]) (harg : (s.fn H (ds ++ gs)).args = ds) (hvar : (s.fn H (ds ++ gs)).vars = [])
    {tb : TypeId} (hrt : f.resultTypes = #[tb]) (hu : P.underlying tb = some .bool) (hf : Fr Nob W W') :
    s.post enc P f false true false false W args (.bool true) W' := by
  have hW' := hW
  obtain ⟨p, q, hA, hV, rfl, hfz, hnd⟩ := hW
  rw [hv] at hV
  obtain ⟨rfl, rfl⟩ := trodVars_none hV
  have hlt : ∀ x ∈ p ++ [], x.block < W.heap.size := fun x hx => hW'.lt x hx
  refine ⟨ds, [], p ++ [], [], p, [], hW', ?_, ?_, ?_, World.keptBut_mono (fun x hx => ⟨hx, ?_⟩) (hf.below.frame (· ∈ p ++ [])), fun h => by cases h⟩
  · rw [hres, hrt]
    exact trodAll_mk1 (shut_bool hu true)
  · rw [harg]
    exact Below.trodAll hl hf.below _ _ _ _ hr hA (fun x hx => hlt x (by simp [hx]))
  · rw [hvar, hv]; exact rfl
  · simp only [List.append_nil] at hx
    exact .inr (.inl hx)
end Go.Mv
