/- A region that draws its order, told as a chain of steps beside fresh blocks (allocs) that may be made at any time between their opening and their joint: each step is shown once; append onto an owned slice, once more: what lay ahead of the new cells is kept, in the old block too; Literals of n one-cell elements; loads and stores of structs by value; An empty slice literal; More makers of one block for the steps of a drawn region: slice literals, boxes; operations that only yield a value; Plain numbers: a number as words of 64 bits; sums, differences and products word by word; Words of 64 bits in memory, as natural numbers; math/bits.Add64, Sub64, Mul64; Sums and differences of words: mont.Int.minus, plus; the reference's less, plus; mont.line: a word times a number, added to the lowest words; mintvaultref2.product: the product of two numbers of four words; (mintvaultref2.F).Less: a number of eight words modulo the prime; The reference's F: Mul, Add, Neg, Sub; N: Zero, Below, Bit, Small; Plain numbers: bytes, the highest first; bits; Bytes and bits of numbers: the reference's Of, Bytes, Bit; mont's FromBytes, Bytes, Bit; mintvaultref1.Lent: the bytes of a text, at the front of a longer list; mont's and the reference's Bytes; Bit; The reference's Pow, Inv, Number, Mod; The reference's Number, Mod, Make; Plain: the two primes; The reference's Make; Slice expressions as equations on their runs: to be laid ahead of a walk; A region that draws its order: the head under a condition S, one operation that may break S, and behind it operations that only yield values, under another condition; mont: lineTop, Mul; A modulus of mont's: its numbers, its block. -/
import Derived.Test.YtdbgddngapminaaMgGroupHomesProof1
import Derived.Shelf.Spec.BitsCarry
import Derived.Shelf.Bits.Mul64
import Derived.Test.YtdbgddngapminaaProg
import Derived.RegionTactic
import Derived.Deep.QuietTactic
import Derived.BigQuiet
import Derived.StillTailTactics
import Derived.KernelRfl
namespace Go.Mv
open Go.RowKit
abbrev Blk := Nat × List Value × TypeId
/-- one place of a function turned -/
def upd (x : Nat → Value) (i : Nat) (v : Value) : Nat → Value := fun k => if k = i then v else x k
theorem upd_same (x : Nat → Value) (i : Nat) (v : Value) : upd x i v i = v := if_pos rfl
theorem upd_other (x : Nat → Value) (i k : Nat) (v : Value) (h : (k == i) = false) : upd x i v k = x k := if_neg (by simpa using h)
theorem St.perm {S : Nat → Prop} {w0 w : World} {bl bl' : List Blk} (h : St S w0 w bl) (p : bl'.Perm bl) : St S w0 w bl' :=
  ⟨h.fr, fun x hx => h.own x (p.subset hx), fun x hx => h.has x (p.subset hx), (List.Perm.pairwise_iff (fun {_ _} e => Ne.symm e) p).2 h.ne⟩
/-- w, t: taken ahead; c: carried out; o: from here on a block may be made; j: by here it is made -/
inductive LS where
  | w (i : Nat)
  | t (i : Nat)
  | c (i : Nat)
  | o (i : Nat)
  | j (i : Nat)
def lcnt : List LS → Nat
  | [] => 0
  | .j _ :: s => lcnt s
  | _ :: s => lcnt s + 1
section
variable {P : Program} {ops : Array Oper} {md : Region.Mode} {Q : Exit → Act → World → Prop} {Sx : World → Prop} {m : Nat} {S : Nat → Prop} {w0 : World} {tl : Pl}
/-- what makes one block of its own, in whatever world -/
def Mk (P : Program) (e : Sem Next) (v : Nat → Value) (L : List Value) (T : TypeId) : Prop :=
  ∀ w, ∃ g w', e.run P w = .ok (.value (v g)) w' ∧ Fr Nob w w' ∧ w.heap.size ≤ g ∧ Has w' g L T
/-- an open block: the operation, its value, its cells -/
abbrev Flt := Nat × (Nat → Value) × List Value × TypeId
def Lad (P : Program) (ops : Array Oper) (Q : Exit → Act → World → Prop) (Sx : World → Prop) (S : Nat → Prop) (w0 : World) (tl : Pl) : List LS → List Flt → List Blk → (World → Prop) → ((Nat → Value) → Act) → Prop
  | [], _, BL, R, A => ∀ x w, St S w0 w BL → R w → wpPlan P ops Q Sx tl (A x) w
  | .w i :: s, Γ, BL, R, A => ∃ o v, ops[i]? = some o ∧ (∀ x, YieldsIf P ops (fun _ => True) o v (A x)) ∧ Lad P ops Q Sx S w0 tl s Γ BL R (fun x => (A x).put o.dst v)
  | .t i :: s, Γ, BL, R, A => ∃ o v, ops[i]? = some o ∧ (∀ x, YieldsIf P ops Sx o v (A x)) ∧ Lad P ops Q Sx S w0 tl s Γ BL R (fun x => (A x).put o.dst v)
  | .c i :: s, Γ, BL, R, A => ∃ o, ops[i]? = some o ∧ o.guard = none ∧ ∃ (X : Type) (v : X → Value) (R' : X → World → Prop), (∀ y w w', R' y w → Fr Nob w w' → R' y w') ∧
      (∀ x w, St S w0 w BL → R w → o.wp P (A x) w (fun a' w' => ∃ y, a' = (A x).put o.dst (v y) ∧ Fr Nob w w' ∧ R' y w') Q) ∧ ∀ y, Lad P ops Q Sx S w0 tl s Γ BL (fun w => R w ∧ R' y w) (fun x => (A x).put o.dst (v y))
  | .o i :: s, Γ, BL, R, A => ∃ o e v L T, ops[i]? = some o ∧ o.guard = none ∧ (∀ x, execOp (A x).eval o = e) ∧ Mk P e v L T ∧ Lad P ops Q Sx S w0 tl s ((i, v, L, T) :: Γ) BL R (fun x => (A x).put o.dst (x i))
  | .j i :: s, Γ, BL, R, A => ∃ v L T, (i, v, L, T) ∈ Γ ∧ ∀ g, Lad P ops Q Sx S w0 tl s (Γ.filter (·.1 != i)) (BL ++ [(g, L, T)]) R (fun x => A (upd x i (v g)))

def subs : List Nat → List (List Nat)
  | [] => [[]]
  | a :: l => subs l ++ (subs l).map (a :: ·)
theorem filter_subs (p : Nat → Bool) : ∀ l : List Nat, l.filter p ∈ subs l
  | [] => by simp [subs]
  | a :: l => by
    rw [subs, List.filter_cons]
    split
    · exact List.mem_append_right _ (List.mem_map.2 ⟨_, filter_subs p l, rfl⟩)
    · exact List.mem_append_left _ (filter_subs p l)
/-- the open blocks of B are made -/
def mark (listed : Array Bool) (B : List Nat) : Array Bool := listed.mapIdx fun k b => b || B.contains k
theorem mark_size (listed : Array Bool) (B : List Nat) : (mark listed B).size = listed.size := by simp [mark]
theorem mark_get (listed : Array Bool) (B : List Nat) (k : Nat) (hk : k < listed.size) (d : Bool) : (mark listed B).getD k d = (listed.getD k d || B.contains k) := by
  simp [mark, hk]
theorem arr_ext {a b : Array Bool} (hs : a.size = b.size) (h : ∀ k, k < a.size → a.getD k true = b.getD k true) : a = b := by
  refine Array.ext hs fun k h1 h2 => ?_
  have := h k h1
  simpa [h1, h2] using this
theorem mark_set (listed : Array Bool) (B : List Nat) (i : Nat) : (mark listed B).setIfInBounds i true = mark (listed.setIfInBounds i true) B := by
  refine arr_ext (by simp [mark_size]) fun k hk => ?_
  have hk' : k < listed.size := by simpa [mark_size] using hk
  rw [mark_get _ _ _ (by simpa using hk')]
  by_cases e : i = k
  · subst e; rw [getD_set_self (by rw [mark_size]; exact hk'), getD_set_self hk']; rfl
  · rw [getD_set_ne true e, getD_set_ne true e, mark_get _ _ _ hk']
theorem mark_more (listed : Array Bool) (B : List Nat) (i : Nat) : (mark listed B).setIfInBounds i true = mark listed (B ++ [i]) := by
  refine arr_ext (by simp [mark_size]) fun k hk => ?_
  have hk' : k < listed.size := by simpa [mark_size] using hk
  rw [mark_get _ _ _ hk']
  by_cases e : i = k
  · subst e; rw [getD_set_self (by rw [mark_size]; exact hk')]; simp
  · rw [getD_set_ne true e, mark_get _ _ _ hk']
    have : (k == i) = false := by simpa using fun h => e h.symm
    rw [List.contains_append, List.contains_cons, this]
    simp
theorem mark_same (listed : Array Bool) (B C : List Nat) (h : ∀ k, B.contains k = C.contains k) : mark listed B = mark listed C := by
  unfold mark
  congr 1
  funext k b
  rw [h k]
/-- what can come is i, or an open block that is not made -/
def cOk (md : Region.Mode) (ops : Array Oper) (i : Nat) (opn : List Nat) (listed : Array Bool) (B : List Nat) : Bool :=
  (Region.ready md ops (mark listed B)).contains i && (Region.ready md ops (mark listed B)).all fun k => k == i || (opn.contains k && !B.contains k)
def dstNe (ops : Array Oper) (i : Nat) (opn : List Nat) : Bool := opn.all fun k => match ops[i]?, ops[k]? with | some a, some b => a.apart ops b | _, _ => false
def selfOk (ops : Array Oper) (i : Nat) : Bool := match ops[i]? with | some o => (match o.dst with | some d => !(o.looksAt ops).contains d | none => true) | none => false
def ladOk (md : Region.Mode) (ops : Array Oper) (m : Nat) (tl : Pl) : List LS → List Nat → Array Bool → Bool
  | [], opn, listed => opn.isEmpty && planOk md ops m tl listed
  | .w i :: s, opn, listed => decide (i ≠ m) && dstNe ops i opn && ((subs opn).all fun B => (Region.ready md ops (mark listed B)).contains i && Region.free md ops (mark listed B) i) && ladOk md ops m tl s opn (listed.setIfInBounds i true)
  | .t i :: s, opn, listed => decide (i ≠ m) && decide (listed.getD m true = false) && dstNe ops i opn && ancB md ops m ops.size i && ((subs opn).all fun B => (Region.ready md ops (mark listed B)).contains i && Region.free md ops (mark listed B) i) && ladOk md ops m tl s opn (listed.setIfInBounds i true)
  | .c i :: s, opn, listed => decide (i ≠ m) && decide (listed.getD m true = false) && !opn.contains i && dstNe ops i opn && ((subs opn).all fun B => cOk md ops i opn listed B) && ladOk md ops m tl s opn (listed.setIfInBounds i true)
  | .o i :: s, opn, listed => decide (i ≠ m) && decide (listed.getD m true = false) && !opn.contains i && dstNe ops i opn && selfOk ops i && ladOk md ops m tl s (i :: opn) listed
  | .j i :: s, opn, listed => opn.contains i && decide (listed.getD m true = false) && !opn.contains m && ((subs (opn.filter (· != i))).all fun B => cOk md ops i opn listed B) && ladOk md ops m tl s (opn.filter (· != i)) (listed.setIfInBounds i true)

theorem put_comm (a : Act) (d e : Option Tmp) (u v : Value) (h : e ≠ d ∨ e = none) : (a.put e u).put d v = (a.put d v).put e u := by
  cases d <;> cases e <;> simp only [Act.put]
  · rename_i x y
    have hn : y ≠ x := fun k => by subst k; rcases h with h | h; exact h rfl; cases h
    rw [Array.setIfInBounds_comm _ _ hn]
theorem put_twice (a : Act) (d : Option Tmp) (u v : Value) : (a.put d u).put d v = a.put d v := by
  cases d <;> simp [Act.put]
theorem put_back (a : Act) (d : Option Tmp) : ∃ u, a.put d u = a := by
  cases d with
  | none => exact ⟨undef, rfl⟩
  | some d =>
    refine ⟨a.tmps.getD d undef, ?_⟩
    simp only [Act.put]
    have : a.tmps.setIfInBounds d (a.tmps.getD d undef) = a.tmps := by
      refine Array.ext (by simp) fun k h1 h2 => ?_
      rw [Array.getElem_setIfInBounds (by simpa using h1)]
      split
      · rename_i e; subst e; simp [h2]
      · rfl
    rw [this]
theorem upd_self (x : Nat → Value) (i : Nat) : upd x i (x i) = x := by
  funext k
  unfold upd
  split
  · rename_i e; rw [e]
  · rfl
theorem dst_ap {i : Nat} {opn : List Nat} {o : Oper} (h : dstNe ops i opn = true) (ho : ops[i]? = some o) {k : Nat} {ok : Oper} (hk : k ∈ opn) (hok : ops[k]? = some ok) : o.apart ops ok = true := by
  have := List.all_eq_true.1 h k hk
  simp only [ho, hok] at this
  exact this
theorem ap_dst {o ok : Oper} (h : o.apart ops ok = true) : o.dst ≠ ok.dst ∨ o.dst = none := by
  obtain ⟨-, h2, -⟩ := Oper.apart_spec h
  cases hd : o.dst with
  | none => exact .inr rfl
  | some d => exact .inl fun e => h2 d hd e.symm
theorem wp_mk {o : Oper} {e : Sem Next} {v : Nat → Value} {L : List Value} {T : TypeId} (ha : Mk P e v L T) {BL : List Blk} {a : Act} {w : World} {K : Act → World → Prop} (he : execOp a.eval o = e) (hst : St S w0 w BL)
    (h : ∀ g w', St S w0 w' (BL ++ [(g, L, T)]) → Fr Nob w w' → K (a.put o.dst (v g)) w') : o.wp P a w K Q := by
  obtain ⟨g, w', hr, hf, hle, hg⟩ := ha w
  unfold Oper.wp
  rw [he, hr]
  exact h g w' (hst.new hf hg hle) hf
structure Fls (P : Program) (ops : Array Oper) (Γ : List Flt) (A : (Nat → Value) → Act) : Prop where
  nd : (Γ.map Prod.fst).Nodup
  ok : ∀ q ∈ Γ, ∃ o e, ops[q.1]? = some o ∧ o.guard = none ∧ (∀ x, execOp (A x).eval o = e) ∧ Mk P e q.2.1 q.2.2.1 q.2.2.2
  put : ∀ k ∈ Γ.map Prod.fst, ∀ o, ops[k]? = some o → ∀ x v, (A x).put o.dst v = A (upd x k v)
  not : ∀ k, k ∉ Γ.map Prod.fst → ∀ x v, A (upd x k v) = A x
theorem Fls.step {Γ : List Flt} {A : (Nat → Value) → Act} (h : Fls P ops Γ A) (hsel : Region.noSelect ops = true) {i : Nat} {o : Oper} (ho : ops[i]? = some o) (hd : dstNe ops i (Γ.map Prod.fst) = true) (v : Value) : Fls P ops Γ (fun x => (A x).put o.dst v) := by
  refine ⟨h.nd, fun q hq => ?_, fun k hk ok hok x u => ?_, fun k hk x u => by rw [h.not k hk]⟩
  · obtain ⟨o2, e, h1, h2, h3, h4⟩ := h.ok q hq
    have hap := dst_ap hd ho (List.mem_map_of_mem hq) h1
    refine ⟨o2, e, h1, h2, fun x => ?_, h4⟩
    rw [execOp_put (ops := ops) o2 (fun cs b => Region.noSelect_spec hsel q.1 o2 cs b h1) (A x) o.dst v (Oper.apart_spec hap).1]
    exact h3 x
  · rw [put_comm _ _ _ _ _ (ap_dst (dst_ap hd ho hk hok)), h.put k hk ok hok]
theorem flt_unique {Γ : List Flt} (h : (Γ.map Prod.fst).Nodup) {a b : Flt} (ha : a ∈ Γ) (hb : b ∈ Γ) (he : a.1 = b.1) : a = b := by
  induction Γ with
  | nil => cases ha
  | cons c l ih =>
    rw [List.map_cons, List.nodup_cons] at h
    rcases List.mem_cons.1 ha with ha1 | ha1
    · rcases List.mem_cons.1 hb with hb1 | hb1
      · rw [ha1, hb1]
      · exact absurd (by rw [← ha1, he]; exact List.mem_map_of_mem hb1) h.1
    · rcases List.mem_cons.1 hb with hb1 | hb1
      · exact absurd (by rw [← hb1, ← he]; exact List.mem_map_of_mem ha1) h.1
      · exact ih h.2 ha1 hb1
theorem flt_map (Γ : List Flt) (i : Nat) : (Γ.filter (·.1 != i)).map Prod.fst = (Γ.map Prod.fst).filter (· != i) := by
  induction Γ with
  | nil => rfl
  | cons a l ih =>
    simp only [List.filter_cons, List.map_cons]
    split <;> simp [ih]
theorem nd_filter {l : List Nat} (h : l.Nodup) (p : Nat → Bool) : (l.filter p).Nodup := List.Pairwise.filter p h
theorem len_filter {l : List Nat} (h : l.Nodup) {i : Nat} (hi : i ∈ l) : (l.filter (· != i)).length + 1 = l.length := by
  induction l with
  | nil => cases hi
  | cons a l ih =>
    rw [List.nodup_cons] at h
    rw [List.filter_cons]
    by_cases e : a = i
    · subst e
      rw [if_neg (by simp)]
      have : l.filter (· != a) = l := List.filter_eq_self.2 fun b hb => by
        simp only [bne_iff_ne, ne_eq]
        exact fun e => h.1 (e ▸ hb)
      rw [this]; rfl
    · rw [if_pos (by simpa using e)]
      rcases List.mem_cons.1 hi with rfl | hi
      · exact absurd rfl e
      · simp [← ih h.2 hi]
theorem wpP_of_lad (hsel : Region.noSelect ops = true) (hm : m < ops.size) (hQ : ∀ c (d : Option Tmp) v a w, Q (.panic c) (Act.put a d v) w → Q (.panic c) a w) :
    ∀ (N f : Nat) (s : List LS) (Γ : List Flt) (listed : Array Bool) (D : List (Nat × Value × Blk)) (x : Nat → Value) (w : World) (BL : List Blk) (R : World → Prop) (A : (Nat → Value) → Act),
      f + s.length ≤ N → f + D.length = lcnt s + Γ.length + tl.len → listed.size = ops.size → m ∉ Γ.map Prod.fst → (D.map Prod.fst).Nodup → Cl md ops (mark listed (D.map Prod.fst)) →
      ladOk md ops m tl s (Γ.map Prod.fst) listed = true → (∀ d ∈ D, x d.1 = d.2.1) → Fls P ops Γ A → (∀ d ∈ D, ∃ v, (d.1, v, d.2.2.2.1, d.2.2.2.2) ∈ Γ ∧ d.2.1 = v d.2.2.1) →
      St S w0 w (BL ++ D.map fun d => d.2.2) → R w → (∀ w w', R w → Fr Nob w w' → R w') → (∀ w', St S w0 w' BL → Sx w') →
      Lad P ops Q Sx S w0 tl s Γ BL R A → wpP P md ops Q Sx m f (mark listed (D.map Prod.fst)) (A x) w := by
  intro N
  induction N with
  | zero =>
    intro f s Γ listed D x w BL R A hN hf hsz hmo hDn inv hok hx hfl hDinf hst hR hRm hSx hlad
    obtain rfl : f = 0 := by omega
    obtain rfl : s = [] := by cases s with | nil => rfl | cons _ _ => simp at hN
    simp only [ladOk, Bool.and_eq_true, List.isEmpty_iff, List.map_eq_nil_iff] at hok
    obtain ⟨rfl, hpl⟩ := hok
    obtain rfl : D = [] := by cases D with | nil => rfl | cons d _ => obtain ⟨_, h, _⟩ := hDinf d (by simp); cases h
    have hmk : mark listed (List.map Prod.fst ([] : List (Nat × Value × Blk))) = listed := by
      refine arr_ext (mark_size _ _) fun k hk => ?_
      rw [mark_get _ _ _ (by simpa [mark_size] using hk)]; simp
    rw [hmk] at inv ⊢
    have hst' : St S w0 w BL := by simpa using hst
    have hc : (0 : Nat) = tl.len := by simpa [lcnt] using hf
    have := wpP_of_plan (md := md) hsel hm hQ tl listed (A x) w inv hpl (fun _ => hSx w hst') (hlad x w hst' hR)
    rwa [← hc] at this
  | succ N ih =>
    intro f s Γ listed D x w BL R A hN hf hsz hmo hDn inv hok hx hfl hDinf hst hR hRm hSx hlad
    have hstB : St S w0 w BL := hst.less (List.sublist_append_left _ _)
    have hDo : ∀ d ∈ D, d.1 ∈ Γ.map Prod.fst := fun d hd => by
      obtain ⟨v, h, _⟩ := hDinf d hd
      exact List.mem_map_of_mem (f := Prod.fst) h
    have hDsub : D.map Prod.fst ⊆ Γ.map Prod.fst := fun a ha => by obtain ⟨d, hd, e⟩ := List.mem_map.1 ha; exact e ▸ hDo d hd
    have hDle : D.length ≤ Γ.length := by
      have := List.Nodup.length_le_of_subset hDn hDsub
      simpa using this
    have hml (h : listed.getD m true = false) : (mark listed (D.map Prod.fst)).getD m true = false := by
      rw [mark_get _ _ _ (by rw [hsz]; exact hm), h]
      simp only [Bool.false_or]
      cases hb : (D.map Prod.fst).contains m with
      | false => rfl
      | true => exact absurd (hDsub (List.contains_iff_mem.1 hb)) hmo
    have hmB : ∀ opn' : List Nat, (∀ d ∈ D, d.1 ∈ opn') → (mark listed (D.map Prod.fst)) = mark listed (opn'.filter fun k => (D.map Prod.fst).contains k) := by
      intro opn' hD'
      refine mark_same _ _ _ fun k => ?_
      rw [Bool.eq_iff_iff]
      simp only [List.mem_filter, List.elem_eq_mem, decide_eq_true_eq]
      constructor
      · intro h
        obtain ⟨d, hd, e⟩ := List.mem_map.1 h
        exact ⟨e ▸ hD' d hd, by simpa using h⟩
      · intro h; simpa using h.2
    -- one more of the open blocks is made
    have float : ∀ k, f ≠ 0 → k ∈ Γ.map Prod.fst → k ∉ D.map Prod.fst → k ∈ Region.ready md ops (mark listed (D.map Prod.fst)) →
        wpOp P ops Q k (fun a' w' => ((mark listed (D.map Prod.fst)).getD m true = false → k ≠ m → Sx w') ∧ wpP P md ops Q Sx m (f - 1) ((mark listed (D.map Prod.fst)).setIfInBounds k true) a' w') (A x) w := by
      intro k hf0 hko hkD hkr
      obtain ⟨⟨k2, v, L, T⟩, hq, rfl⟩ := List.mem_map.1 hko
      obtain ⟨o, e, ho, hg, he, hmk⟩ := hfl.ok _ hq
      refine wpOp_one ho hg (wp_mk hmk (he x) hst fun g w' hst' hfr => ?_)
      have hstB' : St S w0 w' BL := hst'.less (by rw [List.append_assoc]; exact List.sublist_append_left _ _)
      refine ⟨fun _ _ => hSx w' hstB', ?_⟩
      rw [hfl.put k2 hko o ho]
      have e1 : (mark listed (D.map Prod.fst)).setIfInBounds k2 true = mark listed ((D ++ [(k2, v g, (g, L, T))]).map Prod.fst) := by
        rw [mark_more]; simp
      have inv' := inv.set hkr
      rw [e1] at inv' ⊢
      refine ih (f - 1) s Γ listed (D ++ [(k2, v g, (g, L, T))]) (upd x k2 (v g)) w' BL R A (by omega) (by simp; omega) hsz hmo ?_ inv' hok ?_ hfl ?_ ?_ (hRm w w' hR hfr) hRm hSx hlad
      · rw [List.map_append, List.nodup_append]
        refine ⟨hDn, by simp, fun a ha b hb => ?_⟩
        simp only [List.map_cons, List.map_nil, List.mem_singleton] at hb
        subst hb
        exact fun h => hkD (h ▸ ha)
      · intro d hd
        rcases List.mem_append.1 hd with h | h
        · have hne : d.1 ≠ k2 := fun h2 => hkD (h2 ▸ List.mem_map_of_mem h)
          rw [upd_other _ _ _ _ (by simpa using hne)]
          exact hx d h
        · simp only [List.mem_singleton] at h; subst h; exact upd_same _ _ _
      · intro d hd
        rcases List.mem_append.1 hd with h | h
        · exact hDinf d h
        · simp only [List.mem_singleton] at h; subst h; exact ⟨v, hq, rfl⟩
      · simpa using hst'
    cases s with
    | nil =>
      simp only [ladOk, Bool.and_eq_true, List.isEmpty_iff, List.map_eq_nil_iff] at hok
      obtain ⟨rfl, hpl⟩ := hok
      obtain rfl : D = [] := by cases D with | nil => rfl | cons d _ => simp at hDle
      have hmk : mark listed (List.map Prod.fst ([] : List (Nat × Value × Blk))) = listed := by
        refine arr_ext (mark_size _ _) fun k hk => ?_
        rw [mark_get _ _ _ (by simpa [mark_size] using hk)]; simp
      rw [hmk] at inv ⊢
      have hc : f = tl.len := by simpa [lcnt] using hf
      have := wpP_of_plan (md := md) hsel hm hQ tl listed (A x) w inv hpl (fun _ => hSx w hstB) (hlad x w hstB hR)
      rwa [← hc] at this
    | cons q s =>
      cases q with
      | w i =>
        obtain ⟨o, v, ho, hy, hK⟩ := hlad
        simp only [ladOk, Bool.and_eq_true, decide_eq_true_eq] at hok
        obtain ⟨⟨⟨him, hdn⟩, hall⟩, hok'⟩ := hok
        have hB := List.all_eq_true.1 hall _ (filter_subs (fun k => (D.map Prod.fst).contains k) (Γ.map Prod.fst))
        rw [← hmB _ hDo, Bool.and_eq_true] at hB
        have hr' : i ∈ Region.ready md ops (mark listed (D.map Prod.fst)) := by simpa using hB.1
        obtain ⟨f', rfl⟩ : ∃ f', f = f' + 1 := ⟨f - 1, by simp [lcnt] at hf; omega⟩
        refine wpP_takeW ho (Region.noSelect_spec hsel) (fun c a w => hQ c o.dst v a w) him hm f' _ (A x) w inv (Region.free_spec ho hB.2) hr' (hy x) (fun _ => hSx w hstB) ?_
        have inv' := inv.set hr'
        rw [mark_set] at inv' ⊢
        exact ih f' s Γ (listed.setIfInBounds i true) D x w BL R (fun x => (A x).put o.dst v) (by simp at hN; omega) (by simp [lcnt] at hf; omega) (by simpa using hsz) hmo hDn inv' hok' hx (hfl.step hsel ho hdn v) hDinf hst hR hRm hSx hK
      | t i =>
        obtain ⟨o, v, ho, hy, hK⟩ := hlad
        simp only [ladOk, Bool.and_eq_true, decide_eq_true_eq] at hok
        obtain ⟨⟨⟨⟨⟨him, hlm⟩, hdn⟩, han⟩, hall⟩, hok'⟩ := hok
        have hB := List.all_eq_true.1 hall _ (filter_subs (fun k => (D.map Prod.fst).contains k) (Γ.map Prod.fst))
        rw [← hmB _ hDo, Bool.and_eq_true] at hB
        have hr' : i ∈ Region.ready md ops (mark listed (D.map Prod.fst)) := by simpa using hB.1
        obtain ⟨f', rfl⟩ : ∃ f', f = f' + 1 := ⟨f - 1, by simp [lcnt] at hf; omega⟩
        refine wpP_takeS ho (Region.noSelect_spec hsel) (fun c a w => hQ c o.dst v a w) him han f' _ (A x) w inv (hml hlm) (Region.free_spec ho hB.2) hr' (hy x) (hSx w hstB) ?_
        have inv' := inv.set hr'
        rw [mark_set] at inv' ⊢
        exact ih f' s Γ (listed.setIfInBounds i true) D x w BL R (fun x => (A x).put o.dst v) (by simp at hN; omega) (by simp [lcnt] at hf; omega) (by simpa using hsz) hmo hDn inv' hok' hx (hfl.step hsel ho hdn v) hDinf hst hR hRm hSx hK
      | c i =>
        obtain ⟨o, ho, hg, X, v, R', hmono, hc, hK⟩ := hlad
        simp only [ladOk, Bool.and_eq_true, decide_eq_true_eq, Bool.not_eq_true'] at hok
        obtain ⟨⟨⟨⟨⟨him, hlm⟩, hio⟩, hdn⟩, hall⟩, hok'⟩ := hok
        have hB := List.all_eq_true.1 hall _ (filter_subs (fun k => (D.map Prod.fst).contains k) (Γ.map Prod.fst))
        unfold cOk at hB
        rw [← hmB _ hDo, Bool.and_eq_true] at hB
        have hr' : i ∈ Region.ready md ops (mark listed (D.map Prod.fst)) := by simpa using hB.1
        obtain ⟨f', rfl⟩ : ∃ f', f = f' + 1 := ⟨f - 1, by simp [lcnt] at hf; omega⟩
        refine ⟨fun h0 => (by rw [h0] at hr'; cases hr'), fun j hj => ?_⟩
        have hcase := List.all_eq_true.1 hB.2 j hj
        simp only [Bool.or_eq_true, beq_iff_eq, Bool.and_eq_true, Bool.not_eq_true'] at hcase
        rcases hcase with rfl | ⟨h1, h2⟩
        · refine wpOp_one ho hg (Oper.wp_mono (fun a' w' h' => ?_) (hc x w hstB hR))
          obtain ⟨y, rfl, hfr, hRy⟩ := h'
          refine ⟨fun _ _ => hSx w' (hstB.keep hfr), ?_⟩
          have inv' := inv.set hr'
          rw [mark_set] at inv' ⊢
          exact ih f' s Γ (listed.setIfInBounds j true) D x w' BL (fun w => R w ∧ R' y w) (fun x => (A x).put o.dst (v y)) (by simp at hN; omega) (by simp [lcnt] at hf; omega) (by simpa using hsz) hmo hDn inv' hok' hx (hfl.step hsel ho hdn (v y)) hDinf (hst.keep hfr) ⟨hRm w w' hR hfr, hRy⟩ (fun a b h k => ⟨hRm a b h.1 k, hmono y a b h.2 k⟩) hSx (hK y)
        · have h3 : j ∉ D.map Prod.fst := by
            intro h4
            have : ((Γ.map Prod.fst).filter fun k => (D.map Prod.fst).contains k).contains j = true := by
              simp only [List.contains_iff_mem, List.mem_filter]
              exact ⟨by simpa using h1, by simpa using h4⟩
            rw [this] at h2; cases h2
          exact float j (by omega) (by simpa using h1) h3 hj
      | o i =>
        obtain ⟨o, e, v, L, T, ho, hg, he, hmk, hK⟩ := hlad
        simp only [ladOk, Bool.and_eq_true, decide_eq_true_eq, Bool.not_eq_true'] at hok
        obtain ⟨⟨⟨⟨⟨him, hlm⟩, hio⟩, hdn⟩, hself⟩, hok'⟩ := hok
        have hio' : i ∉ Γ.map Prod.fst := by simpa using hio
        obtain ⟨u, hu⟩ := put_back (A x) o.dst
        have hAx : A x = (A (upd x i u)).put o.dst (upd x i u i) := by rw [upd_same, hfl.not i hio', hu]
        rw [hAx]
        have hs0 : ∀ d, o.dst = some d → d ∉ o.looksAt ops := by
          intro d hd
          unfold selfOk at hself
          simp only [ho, hd] at hself
          simpa using hself
        refine ih f s ((i, v, L, T) :: Γ) listed D (upd x i u) w BL R (fun x => (A x).put o.dst (x i)) (by simp at hN; omega) (by simp [lcnt] at hf ⊢; omega) hsz ?_ hDn inv hok' ?_ ⟨?_, ?_, ?_, ?_⟩ (fun d hd => by obtain ⟨v, h1, h2⟩ := hDinf d hd; exact ⟨v, List.mem_cons_of_mem _ h1, h2⟩) hst hR hRm hSx hK
        · simp only [List.map_cons, List.mem_cons, not_or]; exact ⟨fun h => him h.symm, hmo⟩
        · intro d hd
          have hne : d.1 ≠ i := fun h => hio' (h ▸ hDo d hd)
          rw [upd_other _ _ _ _ (by simpa using hne)]
          exact hx d hd
        · rw [List.map_cons, List.nodup_cons]; exact ⟨hio', hfl.nd⟩
        · intro q hq
          rcases List.mem_cons.1 hq with rfl | hq
          · refine ⟨o, e, ho, hg, fun x => ?_, hmk⟩
            show execOp ((A x).put o.dst (x i)).eval o = e
            rw [execOp_put (ops := ops) o (fun cs b => Region.noSelect_spec hsel i o cs b ho) _ _ _ hs0, he]
          · obtain ⟨o2, e2, h1, h2, h3, h4⟩ := hfl.ok q hq
            have hap := dst_ap hdn ho (List.mem_map_of_mem hq) h1
            refine ⟨o2, e2, h1, h2, fun x => ?_, h4⟩
            show execOp ((A x).put o.dst (x i)).eval o2 = e2
            rw [execOp_put (ops := ops) o2 (fun cs b => Region.noSelect_spec hsel q.1 o2 cs b h1) _ _ _ (Oper.apart_spec hap).1, h3]
        · intro k hk ok hok x v
          show ((A x).put o.dst (x i)).put ok.dst v = (A (upd x k v)).put o.dst (upd x k v i)
          rw [List.map_cons] at hk
          rcases List.mem_cons.1 hk with rfl | hk
          · have : ok = o := Option.some.inj (hok.symm.trans ho)
            subst this
            rw [put_twice, upd_same, hfl.not _ hio']
          · have hne : i ≠ k := fun h => hio' (h ▸ hk)
            rw [put_comm _ _ _ _ _ (ap_dst (dst_ap hdn ho hk hok)), hfl.put k hk ok hok, upd_other _ _ _ _ (by simpa using hne)]
        · intro k hk x v
          show (A (upd x k v)).put o.dst (upd x k v i) = (A x).put o.dst (x i)
          simp only [List.map_cons, List.mem_cons, not_or] at hk
          rw [hfl.not k hk.2, upd_other _ _ _ _ (by simpa using fun h => hk.1 h.symm)]
      | j i =>
        obtain ⟨v, L, T, hq, hK⟩ := hlad
        simp only [ladOk, Bool.and_eq_true, decide_eq_true_eq, Bool.not_eq_true'] at hok
        obtain ⟨⟨⟨⟨hio, hlm⟩, hmo2⟩, hall⟩, hok'⟩ := hok
        have hio' : i ∈ Γ.map Prod.fst := by simpa using hio
        by_cases hiD : i ∈ D.map Prod.fst
        · obtain ⟨d, hd, rfl⟩ := List.mem_map.1 hiD
          obtain ⟨v2, hq2, hv2⟩ := hDinf d hd
          obtain ⟨D1, D2, rfl⟩ := List.append_of_mem hd
          obtain ⟨k, u, g, L2, T2⟩ := d
          have hqe := flt_unique hfl.nd hq hq2 rfl
          simp only [Prod.mk.injEq, true_and] at hqe
          obtain ⟨rfl, rfl, rfl⟩ := hqe
          have hxd := hx _ hd
          have hDn' : k ∉ D1.map Prod.fst ∧ k ∉ D2.map Prod.fst ∧ ((D1 ++ D2).map Prod.fst).Nodup := by
            have hp : (List.map Prod.fst (D1 ++ (k, u, g, L, T) :: D2)).Perm (k :: List.map Prod.fst (D1 ++ D2)) := by
              rw [List.map_append, List.map_cons, List.map_append]
              exact List.perm_middle
            have := (hp.nodup_iff).1 hDn
            rw [List.nodup_cons] at this
            simp only [List.map_append, List.mem_append, not_or] at this ⊢
            exact ⟨this.1.1, this.1.2, this.2⟩
          have hAx : A x = A (upd x k (v g)) := by
            have h1 : x k = v g := hxd.trans hv2
            rw [← h1, upd_self]
          rw [hAx]
          have hmk : mark listed ((D1 ++ (k, u, g, L, T) :: D2).map Prod.fst) = mark (listed.setIfInBounds k true) ((D1 ++ D2).map Prod.fst) := by
            refine arr_ext (by simp [mark_size]) fun q hq => ?_
            have hq' : q < listed.size := by simpa [mark_size] using hq
            rw [mark_get _ _ _ hq', mark_get _ _ _ (by simpa using hq')]
            by_cases e : k = q
            · subst e; rw [getD_set_self hq']; simp
            · rw [getD_set_ne true e]
              have : (q == k) = false := by simpa using fun h => e h.symm
              simp only [List.map_append, List.map_cons, List.contains_append, List.contains_cons, this, Bool.false_or]
          rw [hmk] at inv ⊢
          have hDk : ∀ d ∈ D1 ++ D2, d ∈ D1 ++ (k, u, g, L, T) :: D2 ∧ d.1 ≠ k := by
            intro d hd'
            refine ⟨?_, fun h => ?_⟩
            · rcases List.mem_append.1 hd' with h | h
              · exact List.mem_append_left _ h
              · exact List.mem_append_right _ (List.mem_cons_of_mem _ h)
            · rcases List.mem_append.1 hd' with h2 | h2
              · exact hDn'.1 (h ▸ List.mem_map_of_mem h2)
              · exact hDn'.2.1 (h ▸ List.mem_map_of_mem h2)
          have hmem : ∀ q ∈ Γ, q.1 ≠ k → q ∈ Γ.filter (·.1 != k) := fun q hq hne => List.mem_filter.2 ⟨hq, by simpa using hne⟩
          refine ih f s (Γ.filter (·.1 != k)) (listed.setIfInBounds k true) (D1 ++ D2) x w (BL ++ [(g, L, T)]) R (fun x => A (upd x k (v g))) (by simp at hN; omega) ?_ (by simpa using hsz) ?_ hDn'.2.2 inv ?_ (fun d hd' => hx d (hDk d hd').1) ⟨?_, ?_, ?_, ?_⟩ ?_ ?_ hR hRm ?_ (hK g)
          · have h1 := len_filter hfl.nd hio'
            rw [← flt_map] at h1
            simp only [List.length_map] at h1
            simp [lcnt] at hf ⊢
            omega
          · rw [flt_map]; exact fun h => hmo (List.mem_filter.1 h).1
          · rw [flt_map]; exact hok'
          · rw [flt_map]; exact nd_filter hfl.nd _
          · intro q hq
            obtain ⟨o2, e2, h1, h2, h3, h4⟩ := hfl.ok q (List.mem_filter.1 hq).1
            exact ⟨o2, e2, h1, h2, fun x => h3 _, h4⟩
          · intro q hq oq hoq x y
            show (A (upd x k _)).put oq.dst y = A (upd (upd x q y) k _)
            rw [flt_map] at hq
            have hqk : q ≠ k := by simpa using (List.mem_filter.1 hq).2
            rw [hfl.put q (List.mem_filter.1 hq).1 oq hoq]
            congr 1
            funext z
            unfold upd
            by_cases h1 : z = q
            · subst h1; rw [if_pos rfl, if_neg hqk, if_pos rfl]
            · rw [if_neg h1]; by_cases h2 : z = k
              · rw [if_pos h2, if_pos h2]
              · rw [if_neg h2, if_neg h2, if_neg h1]
          · intro q hq x y
            show A (upd (upd x q y) k _) = A (upd x k _)
            by_cases hqk : q = k
            · subst hqk
              congr 1
              funext z
              unfold upd
              by_cases h1 : z = q
              · rw [if_pos h1, if_pos h1]
              · rw [if_neg h1, if_neg h1, if_neg h1]
            · have hq' : q ∉ Γ.map Prod.fst := fun h => hq (by rw [flt_map]; exact List.mem_filter.2 ⟨h, by simpa using hqk⟩)
              have : upd (upd x q y) k (v g) = upd (upd x k (v g)) q y := by
                funext z
                unfold upd
                by_cases h1 : z = k
                · subst h1; rw [if_pos rfl, if_neg (fun h => hqk h.symm), if_pos rfl]
                · rw [if_neg h1]; by_cases h2 : z = q
                  · rw [if_pos h2, if_pos h2]
                  · rw [if_neg h2, if_neg h2, if_neg h1]
              rw [this, hfl.not q hq']
          · intro d hd'
            obtain ⟨v', h1, h2⟩ := hDinf d (hDk d hd').1
            exact ⟨v', hmem _ h1 (hDk d hd').2, h2⟩
          · refine hst.perm ?_
            rw [List.append_assoc]
            refine List.Perm.append_left _ ?_
            rw [List.map_append, List.map_append, List.map_cons]
            exact (List.perm_middle (a := (g, L, T)) (l₁ := List.map (fun d => d.2.2) D1) (l₂ := List.map (fun d => d.2.2) D2)).symm
          · intro w' h; exact hSx w' (h.less (List.sublist_append_left _ _))
        · have hDe : ∀ d ∈ D, d.1 ∈ (Γ.map Prod.fst).filter (· != i) := fun d hd => List.mem_filter.2 ⟨hDo d hd, by
            simp only [bne_iff_ne, ne_eq]
            exact fun h => hiD (by rw [← h]; exact List.mem_map_of_mem hd)⟩
          have hB := List.all_eq_true.1 hall _ (filter_subs (fun k => (D.map Prod.fst).contains k) ((Γ.map Prod.fst).filter (· != i)))
          unfold cOk at hB
          rw [← hmB _ hDe, Bool.and_eq_true] at hB
          have hr' : i ∈ Region.ready md ops (mark listed (D.map Prod.fst)) := by simpa using hB.1
          obtain ⟨f', rfl⟩ : ∃ f', f = f' + 1 := ⟨f - 1, by
            have h1 := List.Nodup.length_le_of_subset hDn (l₂ := (Γ.map Prod.fst).filter (· != i)) (fun a ha => by obtain ⟨d, hd, e⟩ := List.mem_map.1 ha; exact e ▸ hDe d hd)
            have h2 := len_filter hfl.nd hio'
            simp [lcnt] at hf h1 h2; omega⟩
          refine ⟨fun h0 => (by rw [h0] at hr'; cases hr'), fun j hj => ?_⟩
          have hcase := List.all_eq_true.1 hB.2 j hj
          simp only [Bool.or_eq_true, beq_iff_eq, Bool.and_eq_true, Bool.not_eq_true'] at hcase
          have hfl2 := float j (by omega)
          simp only [Nat.add_sub_cancel] at hfl2
          rcases hcase with rfl | ⟨h1, h2⟩
          · exact hfl2 hio' hiD hj
          · have h1' : j ∈ Γ.map Prod.fst := by simpa using h1
            have h3 : j ∉ D.map Prod.fst := by
              intro h4
              have h5 : j ∈ (Γ.map Prod.fst).filter (· != i) := by
                obtain ⟨d, hd, e⟩ := List.mem_map.1 h4
                exact e ▸ hDe d hd
              have : (((Γ.map Prod.fst).filter (· != i)).filter fun k => (D.map Prod.fst).contains k).contains j = true := by
                simp only [List.contains_iff_mem, List.mem_filter]
                exact ⟨by simpa using h5, by simpa using h4⟩
              rw [this] at h2; cases h2
            exact hfl2 h1' h3 hj

def ladAll (ops : Array Oper) (m : Nat) (s : List LS) (tl : Pl) : Bool :=
  Region.noSelect ops && decide (m < ops.size) && decide (lcnt s + tl.len = ops.size) && ladOk .any ops m tl s [] (Array.replicate ops.size false)
/-- THE BEGINNING -/
theorem wp_region_lad {id : Nat} {a : Act} {w : World} {l : List Oper} {BL : List Blk} (hst : St S w0 w BL) (m : Nat) (s : List LS) (tl : Pl) (hm : P.follows .mixedOrders = true) (hB : ladAll l.toArray m s tl = true)
    (hQ : ∀ c (d : Option Tmp) v a w, Q (.panic c) (Act.put a d v) w → Q (.panic c) a w)
    (h : Lad P l.toArray Q (fun w => St S w0 w BL) S w0 tl s [] BL (fun _ => True) (fun _ => a)) : (Code.region id l.toArray true).wp P Q a w := by
  simp only [ladAll, Bool.and_eq_true, decide_eq_true_eq] at hB
  obtain ⟨⟨⟨hsel, hms⟩, hlen⟩, hok⟩ := hB
  have hmk : mark (Array.replicate l.toArray.size false) (List.map Prod.fst ([] : List (Nat × Value × Blk))) = Array.replicate l.toArray.size false := by
    refine arr_ext (mark_size _ _) fun k hk => ?_
    rw [mark_get _ _ _ (by simpa [mark_size] using hk)]; simp
  have inv0 : Cl .any l.toArray (Array.replicate l.toArray.size false) :=
    ⟨by simp, fun j oj _ hl => (by rw [getD_replicate_false] at hl; cases hl)⟩
  have H := wpP_of_lad (md := .any) (Sx := fun w => St S w0 w BL) hsel hms hQ (l.toArray.size + s.length) l.toArray.size s [] (Array.replicate l.toArray.size false) [] (fun _ => undef) w.drew BL (fun _ => True) (fun _ => a)
    (Nat.le_refl _) (by simp [hlen]) (by simp) (by simp) (by simp) (by rw [hmk]; exact inv0) hok (by simp) ⟨by simp, by simp, by simp, fun _ _ _ _ => rfl⟩ (by simp) (by simpa using hst.drew) trivial (fun _ _ _ _ => trivial) (fun _ h => h) h
  rw [hmk] at H
  exact wp_region_any hm (wpAny_of_P _ _ _ _ H)

theorem Lad.weaken : ∀ (s : List LS) {Γ : List Flt} {BL : List Blk} {R R2 : World → Prop} {A : (Nat → Value) → Act}, (∀ w, R2 w → R w) → Lad P ops Q Sx S w0 tl s Γ BL R A → Lad P ops Q Sx S w0 tl s Γ BL R2 A
  | [], _, _, _, _, _, h2, h => fun x w a b => h x w a (h2 w b)
  | .w _ :: s, _, _, _, _, _, h2, ⟨o, v, a, b, c⟩ => ⟨o, v, a, b, Lad.weaken s h2 c⟩
  | .t _ :: s, _, _, _, _, _, h2, ⟨o, v, a, b, c⟩ => ⟨o, v, a, b, Lad.weaken s h2 c⟩
  | .c _ :: s, _, _, _, _, _, h2, ⟨o, a, b, X, v, R', c, d, e⟩ => ⟨o, a, b, X, v, R', c, fun x w p q => d x w p (h2 w q), fun y => Lad.weaken s (fun w h => ⟨h2 w h.1, h.2⟩) (e y)⟩
  | .o _ :: s, _, _, _, _, _, h2, ⟨o, e, v, L, T, a, b, c, d, f⟩ => ⟨o, e, v, L, T, a, b, c, d, Lad.weaken s h2 f⟩
  | .j _ :: s, _, _, _, _, _, h2, ⟨v, L, T, a, b⟩ => ⟨v, L, T, a, fun g => Lad.weaken s h2 (b g)⟩

/- the steps -/
variable {l : List Oper} {i : Nat} {s : List LS} {Γ : List Flt} {BL : List Blk} {R : World → Prop} {A : (Nat → Value) → Act} {o : Oper}
theorem lad_end (h : ∀ x w, St S w0 w BL → R w → wpPlan P l.toArray Q Sx tl (A x) w) : Lad P l.toArray Q Sx S w0 tl [] Γ BL R A := h
theorem lad_w (ho : l[i]? = some o) (hg : o.guard = none) {v : Value} (hv : ∀ x wx, (execOp (A x).eval o).run P wx = .ok (.value v) wx) (h : Lad P l.toArray Q Sx S w0 tl s Γ BL R (fun x => (A x).put o.dst v)) : Lad P l.toArray Q Sx S w0 tl (.w i :: s) Γ BL R A :=
  ⟨o, v, by simpa using ho, fun x => .inl ⟨by simp [Region.wanted, hg], fun wx _ => hv x wx⟩, h⟩
theorem lad_t (ho : l[i]? = some o) (hg : o.guard = none) {v : Value} (hv : ∀ x wx, Sx wx → (execOp (A x).eval o).run P wx = .ok (.value v) wx) (h : Lad P l.toArray Q Sx S w0 tl s Γ BL R (fun x => (A x).put o.dst v)) : Lad P l.toArray Q Sx S w0 tl (.t i :: s) Γ BL R A :=
  ⟨o, v, by simpa using ho, fun x => .inl ⟨by simp [Region.wanted, hg], hv x⟩, h⟩
theorem lad_arr (ho : l[i]? = some o) (hg : o.guard = none) {ty : TypeId} {q : Operand} (hop : o.op = .load ty q) {g p : Nat} (hx : ∀ x, (A x).eval q = .pointer (some ⟨g, p, none⟩)) (cs : List Value) (hS : ∀ wx, Sx wx → wx.rangeAt g p cs)
    {d : TypeDesc} (hu : P.underlying ty = some d) (hd : d.isRow = true) (hi : (P.info? ty).map (·.size) = some cs.length) (h : Lad P l.toArray Q Sx S w0 tl s Γ BL R (fun x => (A x).put o.dst (.agg cs.toArray))) : Lad P l.toArray Q Sx S w0 tl (.t i :: s) Γ BL R A :=
  ⟨o, _, by simpa using ho, fun x => yieldsIf_load_mid (by simp [Region.wanted, hg]) ty q hop g p (hx x) cs d hS hu hd hi, h⟩
theorem mk_alloc {e : TypeId} {z : Value} (hi : (P.info? e).map (·.zero) = some (some z)) {a : Act} (hop : o.op = .alloc e) (L : List Value) (hL : z.cells.toList = L) : Mk P (execOp a.eval o) (fun g => .pointer (some ⟨g, 0, none⟩)) L e := by
  intro w
  obtain ⟨i, hi1, hz⟩ : ∃ i, P.info? e = some i ∧ i.zero = some z := by simpa using hi
  have hr : (Instr.alloc e true (.tuple #[])).run P w = .ok (.pointer (some ⟨w.heap.size, 0, none⟩)) (w.alloc (.cells z.cells e)) := by
    simp [Instr.alloc, zeroValue, typeInfo, hi1, hz, newVar, newRow]
  refine ⟨w.heap.size, w.alloc (.cells z.cells e), ?_, (Fr.refl _ w).alloc _, Nat.le_refl _, ?_⟩
  · unfold execOp
    simp only [hop, Sem.run_bind, Sem.run_pure, Result.andThen_ok, hr]
  · have hg := Has.new w z.cells e
    rwa [hL] at hg
theorem lad_o {e : TypeId} {z : Value} (ho : l[i]? = some o) (hg : o.guard = none) (hop : o.op = .alloc e) (hi : (P.info? e).map (·.zero) = some (some z)) (L : List Value) (hL : z.cells.toList = L) (h : Lad P l.toArray Q Sx S w0 tl s ((i, fun g => .pointer (some ⟨g, 0, none⟩), L, e) :: Γ) BL R (fun x => (A x).put o.dst (x i))) : Lad P l.toArray Q Sx S w0 tl (.o i :: s) Γ BL R A :=
  ⟨o, execOp (A fun _ => undef).eval o, _, L, e, by simpa using ho, hg, fun x => by unfold execOp; rw [hop], mk_alloc hi hop L hL, h⟩
/-- a maker of any kind -/
theorem lad_mk {e : Sem Next} {v : Nat → Value} {L : List Value} {T : TypeId} (ho : l[i]? = some o) (hg : o.guard = none) (he : ∀ x, execOp (A x).eval o = e) (hm : Mk P e v L T) (h : Lad P l.toArray Q Sx S w0 tl s ((i, v, L, T) :: Γ) BL R (fun x => (A x).put o.dst (x i))) : Lad P l.toArray Q Sx S w0 tl (.o i :: s) Γ BL R A :=
  ⟨o, e, v, L, T, by simpa using ho, hg, he, hm, h⟩
theorem lad_j {v : Nat → Value} {L : List Value} {T : TypeId} (hq : (i, v, L, T) ∈ Γ) (h : ∀ g, Lad P l.toArray Q Sx S w0 tl s (Γ.filter (·.1 != i)) (BL ++ [(g, L, T)]) R (fun x => A (upd x i (v g)))) : Lad P l.toArray Q Sx S w0 tl (.j i :: s) Γ BL R A :=
  ⟨v, L, T, hq, h⟩
theorem wp_go {a : Act} {w : World} {K : Act → World → Prop} {f : FuncId} {xs : Array Operand} {ats : Array TypeId} (hop : o.op = .call { callee := .value (.func f), args := xs, argTypes := ats }) (hcl : ∀ us w, (callFunc f us).run P w = .ok (.enter f us) w)
    {vs : List Value} (hargs : xs.toList.map a.eval = vs) (h : Calls P f vs.toArray w fun e w' => ∃ v, e = .returned v ∧ K (a.put o.dst v) w') : o.wp P a w K Q := by
  have he : execOp a.eval o = callFunc f vs.toArray := by
    have h1 : execOp a.eval o = callFunc f (#[] ++ xs.map a.eval ++ #[]) := by
      unfold execOp
      rw [hop]
      rfl
    rw [h1]
    congr 1
    rw [← hargs]
    simp [← Array.toList_map]
  unfold Oper.wp
  rw [he, hcl]
  refine h.mono fun e w' h' => ?_
  obtain ⟨v, rfl, h2⟩ := h'
  exact h2
/-- a call that turns nothing, of one answer -/
theorem lad_call {f : FuncId} {xs : Array Operand} {ats : Array TypeId} (ho : l[i]? = some o) (hg : o.guard = none) (hop : o.op = .call { callee := .value (.func f), args := xs, argTypes := ats }) (hcl : ∀ us w, (callFunc f us).run P w = .ok (.enter f us) w)
    {vs : List Value} {v : Value} (hc : ∀ w, St S w0 w BL → R w → Calls P f vs.toArray w fun e w' => e = .returned v ∧ Fr Nob w w') (hargs : ∀ x, xs.toList.map (A x).eval = vs)
    (h : Lad P l.toArray Q Sx S w0 tl s Γ BL R (fun x => (A x).put o.dst v)) : Lad P l.toArray Q Sx S w0 tl (.c i :: s) Γ BL R A := by
  exact ⟨o, by simpa using ho, hg, Unit, fun _ => v, fun _ _ => True, fun _ _ _ _ _ => trivial, fun x w hst hR => wp_go hop hcl (hargs x) ((hc w hst hR).mono fun e w' h' => ⟨v, h'.1, (), rfl, h'.2, trivial⟩), fun _ => Lad.weaken s (fun w h => h.1) h⟩
/-- a call whose answer is told by some y, with what stays true of it -/
theorem lad_callX {X : Type} (v : X → Value) (R' : X → World → Prop) (hm : ∀ y w w', R' y w → Fr Nob w w' → R' y w') {f : FuncId} {xs : Array Operand} {ats : Array TypeId} (ho : l[i]? = some o) (hg : o.guard = none) (hop : o.op = .call { callee := .value (.func f), args := xs, argTypes := ats }) (hcl : ∀ us w, (callFunc f us).run P w = .ok (.enter f us) w)
    {vs : List Value} (hc : ∀ w, St S w0 w BL → R w → Calls P f vs.toArray w fun e w' => ∃ y, e = .returned (v y) ∧ R' y w' ∧ Fr Nob w w') (hargs : ∀ x, xs.toList.map (A x).eval = vs)
    (h : ∀ y, Lad P l.toArray Q Sx S w0 tl s Γ BL (fun w => R w ∧ R' y w) (fun x => (A x).put o.dst (v y))) : Lad P l.toArray Q Sx S w0 tl (.c i :: s) Γ BL R A :=
  ⟨o, by simpa using ho, hg, X, v, R', hm, fun x w hst hR => wp_go hop hcl (hargs x) ((hc w hst hR).mono fun e w' h' => by obtain ⟨y, h1, h2, h3⟩ := h'; exact ⟨v y, h1, y, rfl, h3, h2⟩), h⟩
variable {rest : List Oper} {a : Act} {w : World}
end
end Go.Mv

/- append onto an owned slice, once more: what lay ahead of the new cells is kept, in the old block too. -/
namespace Go.Mv
open Go.RowKit
variable {P : Program}

/-- all cells of old blocks are as they were, but those of v's block behind its n elements -/
def Kept (v : Value) (n sz : Nat) (w w' : World) : Prop :=
  ∀ b i, b < w.heap.size → (∀ o cap, v = .slice (some ⟨b, o, none⟩) n cap → i < o + n * sz) → w'.cell? ⟨b, i, none⟩ = w.cell? ⟨b, i, none⟩

theorem Kept.refl (v : Value) (n sz : Nat) (w : World) : Kept v n sz w w := fun _ _ _ _ => rfl
theorem Kept.rd {v : Value} {n sz : Nat} {w w' : World} (h : Kept v n sz w w') {a : Option Addr} {m : Nat} {L : List Value} (hr : Rd w a m L) (ha : ∀ b o o' cap, a = some ⟨b, o, none⟩ → v = .slice (some ⟨b, o', none⟩) n cap → o + m ≤ o' + n * sz) : Rd w' a m L := by
  refine ⟨hr.1, hr.2.imp id ?_⟩
  rintro ⟨b, o, rfl, hat⟩
  refine ⟨b, o, rfl, fun i u hu => ?_⟩
  have hc := hat i u hu
  have hi : i < m := by
    rcases Nat.lt_or_ge i m with k | k
    · exact k
    · rw [List.getElem?_eq_none (by rw [hr.1]; exact k)] at hu; cases hu
  rw [h b (o + i) (block_lt_of_cell hc) (fun o' cap hv => by have := ha b o o' cap rfl hv; omega)]
  exact hc

section
variable {w : World} {ops : Array Oper} {rest : List Oper} {o : Oper} {a : Act} {Q : Exit → Act → World → Prop}
end
end Go.Mv
namespace Go.Mv
open Go.RowKit
section
variable {P : Program} {w : World} {ops : Array Oper} {o : Oper} {a : Act} {K : Act → World → Prop} {Q : Exit → Act → World → Prop} {E : Prop}
end
end Go.Mv

/- Literals of n one-cell elements; loads and stores of structs by value. -/
namespace Go.Mv
open Go.RowKit
variable {P : Program}
/-- n cells in a row -/
theorem wl_slit {w : World} {ops : Array Oper} {rest : List Oper} {o : Oper} {a : Act} {Q : Exit → Act → World → Prop} {t e : TypeId} {k : Nat} {parts : Array (Nat × Operand)} (hgd : o.guard = none) (ho : o.op = .buildSlice t k parts)
    (hu : P.underlying t = some (.slice e)) {z : Value} {by_ : Nat} (hi0 : (P.info? e).map (fun i => (i.zero, i.size, i.bytes)) = some (some z, 1, by_)) (vs : List Value) (hp : (parts.toList.map fun p => (p.1, a.eval p.2)) = (vs.zipIdx 0).map fun x => (x.2, x.1))
    (hv : ∀ v ∈ vs, v.cells = #[v]) (hk : vs.length = k) (hz : z.cells.size = 1)
    (h : ∀ w', Has w' w.heap.size vs e → Fr Nob w w' → w'.heap.size = w.heap.size + 1 → wpList P ops Q rest (a.put o.dst (.slice (some ⟨w.heap.size, 0, none⟩) k k)) w') (hk0 : 0 < k := by decide) (hk24 : k ≤ 16777216 := by decide) : wpList P ops Q (o :: rest) a w := by
  have _hz := hz
  obtain ⟨i, hi, hz0⟩ : ∃ i, P.info? e = some i ∧ (i.zero, i.size, i.bytes) = (some z, 1, by_) := by simpa using hi0
  simp only [Prod.mk.injEq] at hz0
  obtain ⟨hz1, hsz, hby⟩ := hz0
  have hf : Instr.fill (fun j => some (j * i.size, i.size)) ((Array.range (k * i.size)).map (z.cells[· % z.cells.size]!)) (parts.map fun (i, x) => (i, a.eval x)).toList = some vs.toArray := by
    rw [show (parts.map fun (i, x) => (i, a.eval x)).toList = (parts.toList.map fun p => (p.1, a.eval p.2)) by simp, hp, hsz]
    exact Great.fill_flat vs _ hv (by simp [hk])
  exact wpList_buildSlice hgd t e k _ ho _ i _ hu hi hz1 (by rw [hsz]; omega) (by rw [hsz]; omega) hf (h _ (Has.new w vs.toArray e) ((Fr.refl _ w).alloc _) (by simp))

theorem wl_buildL {w : World} {ops : Array Oper} {rest : List Oper} {o : Oper} {a : Act} {Q : Exit → Act → World → Prop} {t : TypeId} {parts : Array (Nat × Operand)} (hgd : o.guard = none) (ho : o.op = .build t parts) (cells : Array Value)
    (hb : P.built t (parts.toList.map fun p => (p.1, a.eval p.2)) = some cells) (h : wpList P ops Q rest (a.put o.dst (.agg cells)) w) : wpList P ops Q (o :: rest) a w :=
  wl_build hgd ho cells (by rw [show (parts.map fun (i, x) => (i, a.eval x)).toList = (parts.toList.map fun p => (p.1, a.eval p.2)) by simp]; exact hb) h
/-- a whole row (array or struct) is read, out of cells -/
theorem wl_loadR {w : World} {ops : Array Oper} {rest : List Oper} {o : Oper} {a : Act} {Q : Exit → Act → World → Prop} {ty : TypeId} {x : Operand} (hgd : o.guard = none) (ho : o.op = .load ty x) {d : TypeDesc} (hu : P.underlying ty = some d) (hd : d.isRow = true) {g p : Nat} (hx : a.eval x = .pointer (some ⟨g, p, none⟩))
    {cs : List Value} (hg : At w g p cs) (hi : (P.info? ty).map (·.size) = some cs.length)
    (h : wpList P ops Q rest (a.put o.dst (.agg cs.toArray)) w) : wpList P ops Q (o :: rest) a w :=
  wpList_load_mid hgd ty x ho g p hx cs d (fun j v hv => hg j v hv) hu hd hi h
end Go.Mv

/- An empty slice literal. -/
namespace Go.Mv
open Go.RowKit
variable {P : Program}
end Go.Mv
namespace Go.Mv
open Go.RowKit
variable {P : Program}
/-- n rows in a row: a slice literal of structs -/
theorem wl_slitR {w : World} {ops : Array Oper} {rest : List Oper} {o : Oper} {a : Act} {Q : Exit → Act → World → Prop} {t e : TypeId} {k : Nat} {parts : Array (Nat × Operand)} (hgd : o.guard = none) (ho : o.op = .buildSlice t k parts)
    (hu : P.underlying t = some (.slice e)) {z : Value} {sz by_ : Nat} (hi0 : (P.info? e).map (fun i => (i.zero, i.size, i.bytes)) = some (some z, sz, by_)) (vs : List Value) (hp : (parts.toList.map fun p => (p.1, a.eval p.2)) = (vs.zipIdx 0).map fun x => (x.2, x.1))
    (hv : ∀ v ∈ vs, v.cells.size = sz) (hk : vs.length = k) (L : List Value) (hL : (vs.flatMap fun v => v.cells.toList) = L)
    (h : ∀ w', Has w' w.heap.size L e → Fr Nob w w' → w'.heap.size = w.heap.size + 1 → wpList P ops Q rest (a.put o.dst (.slice (some ⟨w.heap.size, 0, none⟩) k k)) w') (hk0 : 0 < k * sz := by decide) (hk24 : k * sz ≤ 16777216 := by decide) : wpList P ops Q (o :: rest) a w := by
  obtain ⟨i, hi, hz0⟩ : ∃ i, P.info? e = some i ∧ (i.zero, i.size, i.bytes) = (some z, sz, by_) := by simpa using hi0
  simp only [Prod.mk.injEq] at hz0
  obtain ⟨hz1, hsz, hby⟩ := hz0
  have hs0 : 0 < sz := Nat.pos_of_mul_pos_left hk0
  have hf : Instr.fill (fun j => some (j * i.size, i.size)) ((Array.range (k * i.size)).map (z.cells[· % z.cells.size]!)) (parts.map fun (i, x) => (i, a.eval x)).toList = some L.toArray := by
    rw [show (parts.map fun (i, x) => (i, a.eval x)).toList = (parts.toList.map fun p => (p.1, a.eval p.2)) by simp, hp, hsz, ← hL]
    exact Great.fill_whole hs0 vs _ hv (by simp [hk])
  exact wpList_buildSlice hgd t e k _ ho _ i _ hu hi hz1 (by rw [hsz]; omega) (by rw [hsz]; omega) hf (h _ (Has.new w L.toArray e) ((Fr.refl _ w).alloc _) (by simp))
end Go.Mv
namespace Go.Mv
open Go.RowKit
variable {P : Program}
end Go.Mv

/- More makers of one block for the steps of a drawn region: slice literals, boxes; operations that only yield a value. -/
namespace Go.Mv
open Go.RowKit
section
variable {P : Program} {Q : Exit → Act → World → Prop} {Sx : World → Prop} {S : Nat → Prop} {w0 : World} {tl : Pl} {l : List Oper} {i : Nat} {s : List LS} {Γ : List Flt} {BL : List Blk} {R : World → Prop} {A : (Nat → Value) → Act} {o : Oper}
theorem parts_arr {parts : Array (Nat × Operand)} {ρ : Operand → Value} {M : List (Nat × Value)} (h : (parts.toList.map fun p => (p.1, ρ p.2)) = M) : (parts.map fun (i, x) => (i, ρ x)) = M.toArray := by
  apply Array.toList_inj.1
  rw [Array.toList_map, ← h]
theorem mk_rows {t e : TypeId} {k : Nat} {M : List (Nat × Value)} (hu : P.underlying t = some (.slice e)) {z : Value} {sz by_ : Nat} (hi0 : (P.info? e).map (fun i => (i.zero, i.size, i.bytes)) = some (some z, sz, by_)) (vs : List Value) (hp : M = (vs.zipIdx 0).map fun x => (x.2, x.1))
    (hv : ∀ v ∈ vs, v.cells.size = sz) (hk : vs.length = k) (L : List Value) (hL : (vs.flatMap fun v => v.cells.toList) = L) (hk0 : 0 < k * sz := by decide) (hk24 : k * sz ≤ 16777216 := by decide) :
    Mk P (do pure (.value (← Instr.buildSlice t k M.toArray))) (fun g => .slice (some ⟨g, 0, none⟩) k k) L e := by
  intro w
  obtain ⟨i, hi, hz0⟩ : ∃ i, P.info? e = some i ∧ (i.zero, i.size, i.bytes) = (some z, sz, by_) := by simpa using hi0
  simp only [Prod.mk.injEq] at hz0
  obtain ⟨hz1, hsz, hby⟩ := hz0
  have hs0 : 0 < sz := Nat.pos_of_mul_pos_left hk0
  have hf : Instr.fill (fun j => some (j * i.size, i.size)) ((Array.range (k * i.size)).map (z.cells[· % z.cells.size]!)) M = some L.toArray := by
    rw [hp, hsz, ← hL]
    exact Great.fill_whole hs0 vs _ hv (by simp [hk])
  refine ⟨w.heap.size, w.alloc (.cells L.toArray e), ?_, (Fr.refl _ w).alloc _, Nat.le_refl _, Has.new w L.toArray e⟩
  simp only [Sem.run_bind, run_buildSlice w t e k M.toArray L.toArray i z hu hi hz1 (by rw [hsz]; omega) (by rw [hsz]; omega) (by simpa using hf), Result.andThen_ok, Sem.run_pure]
/-- a slice literal of structs (or of one-cell values) -/
theorem lad_rows {t e : TypeId} {k : Nat} {parts : Array (Nat × Operand)} (ho : l[i]? = some o) (hg : o.guard = none) (hop : o.op = .buildSlice t k parts) (hu : P.underlying t = some (.slice e)) {z : Value} {sz by_ : Nat} (hi0 : (P.info? e).map (fun i => (i.zero, i.size, i.bytes)) = some (some z, sz, by_))
    (vs : List Value) (hp : ∀ x, (parts.toList.map fun p => (p.1, (A x).eval p.2)) = (vs.zipIdx 0).map fun x => (x.2, x.1)) (hv : ∀ v ∈ vs, v.cells.size = sz) (hk : vs.length = k) (L : List Value) (hL : (vs.flatMap fun v => v.cells.toList) = L)
    (h : Lad P l.toArray Q Sx S w0 tl s ((i, fun g => .slice (some ⟨g, 0, none⟩) k k, L, e) :: Γ) BL R (fun x => (A x).put o.dst (x i))) (hk0 : 0 < k * sz := by decide) (hk24 : k * sz ≤ 16777216 := by decide) : Lad P l.toArray Q Sx S w0 tl (.o i :: s) Γ BL R A :=
  lad_mk ho hg (fun x => by unfold execOp; simp only [hop]; rw [parts_arr (hp x)]) (mk_rows hu hi0 vs rfl hv hk L hL hk0 hk24) h
/-- an operation that only yields a value, carried out -/
theorem lad_v (ho : l[i]? = some o) (hg : o.guard = none) {v : Value} (hv : ∀ x w, St S w0 w BL → R w → (execOp (A x).eval o).run P w = .ok (.value v) w) (h : Lad P l.toArray Q Sx S w0 tl s Γ BL R (fun x => (A x).put o.dst v)) : Lad P l.toArray Q Sx S w0 tl (.c i :: s) Γ BL R A :=
  ⟨o, by simpa using ho, hg, Unit, fun _ => v, fun _ _ => True, fun _ _ _ _ _ => trivial, fun x w hst hR => by unfold Oper.wp; rw [hv x w hst hR]; exact ⟨(), rfl, Fr.refl _ _, trivial⟩, fun _ => Lad.weaken s (fun w h => h.1) h⟩
end
end Go.Mv

/- Plain numbers: a number as words of 64 bits; sums, differences and products word by word. -/
namespace Mvp

/-- 2^64 -/
abbrev B64 : Nat := 18446744073709551616
/-- the i-th word -/
def lw (a i : Nat) : Nat := a / B64 ^ i % B64
def limbs (n a : Nat) : List Nat := (List.range n).map (lw a)
/-- the k lowest words of A, above them those of B -/
def mix (A B k : Nat) : Nat := A % B64 ^ k + B / B64 ^ k * B64 ^ k

theorem b64_pos (k : Nat) : 0 < B64 ^ k := Nat.pow_pos (by decide)
theorem lw_lt (a i : Nat) : lw a i < 18446744073709551616 := Nat.mod_lt _ (by decide)
theorem limbs_length (n a : Nat) : (limbs n a).length = n := by simp [limbs]
theorem limbs_get (n a i : Nat) (h : i < n) : (limbs n a)[i]? = some (lw a i) := by simp [limbs, h]
theorem lw_mod (a i k : Nat) (h : i < k) : lw (a % B64 ^ k) i = lw a i := by
  unfold lw
  obtain ⟨j, rfl⟩ : ∃ j, k = i + (1 + j) := ⟨k - i - 1, by omega⟩
  rw [Nat.pow_add, Nat.mod_mul_right_div_self, Nat.pow_add, Nat.pow_one, Nat.mod_mul_right_mod]
theorem lw_div (a k i : Nat) : lw (a / B64 ^ k) i = lw a (k + i) := by
  unfold lw
  rw [Nat.div_div_eq_div_mul, ← Nat.pow_add]
theorem mix_mod (A B k : Nat) : mix A B k % B64 ^ k = A % B64 ^ k := by
  unfold mix
  rw [Nat.add_mul_mod_self_right, Nat.mod_mod]
theorem mix_div (A B k : Nat) : mix A B k / B64 ^ k = B / B64 ^ k := by
  unfold mix
  rw [Nat.add_mul_div_right _ _ (b64_pos k), Nat.div_eq_of_lt (Nat.mod_lt _ (b64_pos k)), Nat.zero_add]
theorem lw_mix (A B k i : Nat) : lw (mix A B k) i = if i < k then lw A i else lw B i := by
  split
  · rename_i h
    rw [← lw_mod _ i k h, mix_mod, lw_mod _ i k h]
  · rename_i h
    obtain ⟨j, rfl⟩ : ∃ j, i = k + j := ⟨i - k, by omega⟩
    rw [← lw_div, ← lw_div, mix_div]
theorem limbs_ext {n a b : Nat} (h : ∀ i, i < n → lw a i = lw b i) : limbs n a = limbs n b := by
  unfold limbs
  apply List.map_congr_left
  intro i hi
  exact h i (List.mem_range.1 hi)
theorem limbs_set (n A B k : Nat) (h : k < n) : (limbs n (mix A B k)).set k (lw A k) = limbs n (mix A B (k + 1)) := by
  have _h := h
  apply List.ext_getElem?
  intro i
  rw [List.getElem?_set]
  rcases Nat.lt_or_ge i n with hi | hi
  · rw [limbs_get _ _ _ hi, limbs_get _ _ _ hi, lw_mix, lw_mix, limbs_length]
    by_cases e : k = i
    · subst e; simp [h]
    · rw [if_neg e]
      congr 1
      by_cases h2 : i < k
      · rw [if_pos h2, if_pos (by omega)]
      · rw [if_neg h2, if_neg (by omega)]
  · rw [List.getElem?_eq_none (by rw [limbs_length]; exact hi), List.getElem?_eq_none (by rw [limbs_length]; exact hi)]
    split
    · rw [limbs_length, if_neg (by omega)]
    · rfl
theorem mix_zero (A B : Nat) : mix A B 0 = B := by simp [mix, Nat.mod_one]
theorem mix_top (A B k : Nat) (h : B < B64 ^ k) : mix A B k = A % B64 ^ k := by
  unfold mix
  rw [Nat.div_eq_of_lt h, Nat.zero_mul, Nat.add_zero]
theorem limbs_mod (n a : Nat) : limbs n (a % B64 ^ n) = limbs n a := limbs_ext fun i hi => lw_mod a i n hi
theorem mod_succ (a k : Nat) : a % B64 ^ (k + 1) = a % B64 ^ k + B64 ^ k * lw a k := by
  unfold lw
  rw [Nat.pow_succ, Nat.mod_mul]
/-- numbers of n words are the same if their words are -/
theorem limbs_mod_inj {n a b : Nat} (h : limbs n a = limbs n b) : a % B64 ^ n = b % B64 ^ n := by
  have hw : ∀ i, i < n → lw a i = lw b i := fun i hi => by
    have h1 := limbs_get n a i hi
    rw [h, limbs_get n b i hi] at h1
    exact (Option.some.inj h1).symm
  clear h
  induction n with
  | zero => simp [Nat.mod_one]
  | succ k ih => rw [mod_succ, mod_succ, ih (fun i hi => hw i (by omega)), hw k (by omega)]
/-- the carry behind k words of a sum -/
def cAdd (a b k : Nat) : Nat := (a % B64 ^ k + b % B64 ^ k) / B64 ^ k
theorem cAdd_zero (a b : Nat) : cAdd a b 0 = 0 := by simp [cAdd, Nat.mod_one]
theorem cAdd_le (a b k : Nat) : cAdd a b k ≤ 1 := by
  unfold cAdd
  have h := b64_pos k
  have h1 := Nat.mod_lt a h
  have h2 := Nat.mod_lt b h
  generalize B64 ^ k = W at *
  exact Nat.le_of_lt_succ (Nat.div_lt_of_lt_mul (by omega))
theorem cAdd_succ (a b k : Nat) : cAdd a b (k + 1) = (lw a k + lw b k + cAdd a b k) / 18446744073709551616 := by
  unfold cAdd
  rw [mod_succ, mod_succ, Nat.pow_succ, ← Nat.div_div_eq_div_mul]
  congr 1
  have e : a % B64 ^ k + B64 ^ k * lw a k + (b % B64 ^ k + B64 ^ k * lw b k) = (a % B64 ^ k + b % B64 ^ k) + B64 ^ k * (lw a k + lw b k) := by rw [Nat.mul_add]; omega
  rw [e, Nat.add_mul_div_left _ _ (b64_pos k)]
  omega
theorem lw_add (a b k : Nat) : lw (a + b) k = (lw a k + lw b k + cAdd a b k) % 18446744073709551616 := by
  unfold lw cAdd
  have h := b64_pos k
  have e : a + b = (a % B64 ^ k + b % B64 ^ k) + B64 ^ k * (a / B64 ^ k + b / B64 ^ k) := by
    have h1 := Nat.div_add_mod a (B64 ^ k)
    have h2 := Nat.div_add_mod b (B64 ^ k)
    rw [Nat.mul_add]; omega
  have e2 : (a + b) / B64 ^ k = (a % B64 ^ k + b % B64 ^ k) / B64 ^ k + (a / B64 ^ k + b / B64 ^ k) := by
    conv => lhs; rw [e]
    rw [Nat.add_mul_div_left _ _ h]
  rw [e2]
  generalize (a % B64 ^ k + b % B64 ^ k) / B64 ^ k = x
  generalize a / B64 ^ k = y
  generalize b / B64 ^ k = z
  show (x + (y + z)) % 18446744073709551616 = (y % 18446744073709551616 + z % 18446744073709551616 + x) % 18446744073709551616
  omega
theorem cAdd_all (a b k : Nat) (ha : a < B64 ^ k) (hb : b < B64 ^ k) : cAdd a b k = (a + b) / B64 ^ k := by
  unfold cAdd; rw [Nat.mod_eq_of_lt ha, Nat.mod_eq_of_lt hb]

/-- the borrow behind k words of a difference -/
def cSub (a b k : Nat) : Nat := if a % B64 ^ k < b % B64 ^ k then 1 else 0
theorem cSub_zero (a b : Nat) : cSub a b 0 = 0 := by simp [cSub, Nat.mod_one]
theorem cSub_le (a b k : Nat) : cSub a b k ≤ 1 := by unfold cSub; split <;> omega
theorem cSub_succ (a b k : Nat) : cSub a b (k + 1) = if lw a k < lw b k + cSub a b k then 1 else 0 := by
  unfold cSub
  rw [mod_succ, mod_succ]
  have h := b64_pos k
  have h1 := Nat.mod_lt a h
  have h2 := Nat.mod_lt b h
  generalize lw a k = x
  generalize lw b k = y
  generalize a % B64 ^ k = p at *
  generalize b % B64 ^ k = q at *
  generalize B64 ^ k = W at *
  rcases Nat.lt_trichotomy x y with hxy | hxy | hxy
  · obtain ⟨d, rfl⟩ : ∃ d, y = x + 1 + d := ⟨y - x - 1, by omega⟩
    have e : W * (x + 1 + d) = W * x + W + W * d := by rw [Nat.mul_add, Nat.mul_add, Nat.mul_one]
    rw [e]
    rw [if_pos (by omega), if_pos (by omega)]
  · subst hxy
    by_cases hpq : p < q
    · rw [if_pos hpq, if_pos (by omega), if_pos (by omega)]
    · rw [if_neg hpq, if_neg (by omega), if_neg (by omega)]
  · obtain ⟨d, rfl⟩ : ∃ d, x = y + 1 + d := ⟨x - y - 1, by omega⟩
    have e : W * (y + 1 + d) = W * y + W + W * d := by rw [Nat.mul_add, Nat.mul_add, Nat.mul_one]
    rw [e]
    rw [if_neg (by omega), if_neg (by split <;> omega)]
/-- a difference of n words: D = a + 2^(64 n) - b -/
theorem lw_sub (n a b k : Nat) (hb : b < B64 ^ n) (hk : k < n) : lw (a + B64 ^ n - b) k = (lw a k + 18446744073709551616 - lw b k - cSub a b k) % 18446744073709551616 := by
  obtain ⟨j, rfl⟩ : ∃ j, n = k + (1 + j) := ⟨n - k - 1, by omega⟩
  have hW := b64_pos k
  have hT := b64_pos j
  have hN : B64 ^ (k + (1 + j)) = B64 ^ k * (B64 * B64 ^ j) := by rw [Nat.pow_add, Nat.pow_add, Nat.pow_one]
  rw [hN] at hb ⊢
  have ha1 := Nat.div_add_mod a (B64 ^ k)
  have hb1 := Nat.div_add_mod b (B64 ^ k)
  have ha2 := Nat.mod_lt a hW
  have hb2 := Nat.mod_lt b hW
  have hbh : b / B64 ^ k < B64 * B64 ^ j := Nat.div_lt_of_lt_mul hb
  unfold lw cSub
  generalize a / B64 ^ k = x at *
  generalize b / B64 ^ k = y at *
  generalize a % B64 ^ k = p at *
  generalize b % B64 ^ k = q at *
  generalize B64 ^ j = T at *
  generalize B64 ^ k = W at *
  have hq : ∃ c, c ≤ 1 ∧ (c = if p < q then 1 else 0) ∧ p + c * W < q + W ∧ q ≤ p + c * W := by
    by_cases h : p < q
    · exact ⟨1, by omega, by rw [if_pos h], by omega, by omega⟩
    · exact ⟨0, by omega, by rw [if_neg h], by omega, by omega⟩
  obtain ⟨c, hc1, hc2, hc3, hc4⟩ := hq
  rw [← hc2]
  have hyc : y + c ≤ x + B64 * T := by omega
  have e : (a + W * (B64 * T) - b) / W = x + B64 * T - y - c := by
    have h1 : a + W * (B64 * T) - b = W * (x + B64 * T - y - c) + (p + c * W - q) := by
      have h2 : W * (x + B64 * T - y - c) + W * (y + c) = W * x + W * (B64 * T) := by
        rw [← Nat.mul_add, ← Nat.mul_add]; congr 1; omega
      have h3 : W * (y + c) = W * y + c * W := by rw [Nat.mul_add, Nat.mul_comm W c]
      generalize W * (x + B64 * T - y - c) = u at *
      generalize W * (B64 * T) = v at *
      generalize W * (y + c) = z at *
      omega
    rw [h1, Nat.mul_add_div hW, Nat.div_eq_of_lt (by omega), Nat.add_zero]
  rw [e]
  show (x + 18446744073709551616 * T - y - c) % 18446744073709551616 = (x % 18446744073709551616 + 18446744073709551616 - y % 18446744073709551616 - c) % 18446744073709551616
  have hyc' : y + c ≤ x + 18446744073709551616 * T := hyc
  omega
theorem cSub_all (a b k : Nat) (ha : a < B64 ^ k) (hb : b < B64 ^ k) : cSub a b k = if a < b then 1 else 0 := by
  unfold cSub; rw [Nat.mod_eq_of_lt ha, Nat.mod_eq_of_lt hb]

/-- the carry behind k words of L + x n -/
def cMul (L x n k : Nat) : Nat := (L % B64 ^ k + x * (n % B64 ^ k)) / B64 ^ k
theorem cMul_zero (L x n : Nat) : cMul L x n 0 = 0 := by simp [cMul, Nat.mod_one]
theorem cMul_lt (L x n k : Nat) (hx : x < 18446744073709551616) : cMul L x n k < 18446744073709551616 := by
  unfold cMul
  have h := b64_pos k
  have h1 := Nat.mod_lt L h
  have h2 := Nat.mod_lt n h
  have h3 : x * (n % B64 ^ k) ≤ 18446744073709551615 * (n % B64 ^ k) := Nat.mul_le_mul_right _ (by omega)
  generalize B64 ^ k = W at *
  refine Nat.div_lt_of_lt_mul ?_
  omega
theorem cMul_succ (L x n k : Nat) : cMul L x n (k + 1) = (lw L k + x * lw n k + cMul L x n k) / 18446744073709551616 := by
  unfold cMul
  rw [mod_succ, mod_succ, Nat.pow_succ, ← Nat.div_div_eq_div_mul]
  congr 1
  have e : L % B64 ^ k + B64 ^ k * lw L k + x * (n % B64 ^ k + B64 ^ k * lw n k) = (L % B64 ^ k + x * (n % B64 ^ k)) + B64 ^ k * (lw L k + x * lw n k) := by
    rw [Nat.mul_add, Nat.mul_add, Nat.mul_left_comm x]; omega
  rw [e, Nat.add_mul_div_left _ _ (b64_pos k)]
  omega
theorem lw_madd (L x n k : Nat) : lw (L + x * n) k = (lw L k + x * lw n k + cMul L x n k) % 18446744073709551616 := by
  unfold lw cMul
  have h := b64_pos k
  have e : L + x * n = (L % B64 ^ k + x * (n % B64 ^ k)) + B64 ^ k * (L / B64 ^ k + x * (n / B64 ^ k)) := by
    have h1 := Nat.div_add_mod L (B64 ^ k)
    have h2 := Nat.div_add_mod n (B64 ^ k)
    have h3 : x * n = x * (B64 ^ k * (n / B64 ^ k)) + x * (n % B64 ^ k) := by rw [← Nat.mul_add, h2]
    have h4 : x * (B64 ^ k * (n / B64 ^ k)) = B64 ^ k * (x * (n / B64 ^ k)) := Nat.mul_left_comm _ _ _
    rw [Nat.mul_add]; omega
  have e2 : (L + x * n) / B64 ^ k = (L % B64 ^ k + x * (n % B64 ^ k)) / B64 ^ k + (L / B64 ^ k + x * (n / B64 ^ k)) := by
    conv => lhs; rw [e]
    rw [Nat.add_mul_div_left _ _ h]
  rw [e2]
  generalize (L % B64 ^ k + x * (n % B64 ^ k)) / B64 ^ k = u
  generalize L / B64 ^ k = y
  generalize n / B64 ^ k = z
  show (u + (y + x * z)) % 18446744073709551616 = (y % 18446744073709551616 + x * (z % 18446744073709551616) + u) % 18446744073709551616
  have e3 : x * (z % 18446744073709551616) % 18446744073709551616 = x * z % 18446744073709551616 := Nat.mul_mod_mod _ _ _
  generalize x * (z % 18446744073709551616) = s at *
  generalize x * z = t at *
  omega
theorem cMul_all (L x n k : Nat) (hL : L < B64 ^ k) (hn : n < B64 ^ k) : cMul L x n k = (L + x * n) / B64 ^ k := by
  unfold cMul; rw [Nat.mod_eq_of_lt hL, Nat.mod_eq_of_lt hn]
/-- one round of a line: what is told by Mul64 and two times Add64 -/
theorem line_round (p t c : Nat) (hp : p ≤ 18446744073709551615 * 18446744073709551615) (hc : c < 18446744073709551616) :
    (t + (p % 18446744073709551616 + c) % 18446744073709551616) % 18446744073709551616 = (t + p + c) % 18446744073709551616 ∧
    p / 18446744073709551616 + (p % 18446744073709551616 + c) / 18446744073709551616 < 18446744073709551616 ∧
    p / 18446744073709551616 + (p % 18446744073709551616 + c) / 18446744073709551616 + (t + (p % 18446744073709551616 + c) % 18446744073709551616) / 18446744073709551616 = (t + p + c) / 18446744073709551616 := by
  omega
/-- the same with a name for each word -/
theorem line_names (p t c : Nat) (hp : p ≤ 18446744073709551615 * 18446744073709551615) (hc : c < 18446744073709551616) :
    ∃ hi lo lo2 c1 t2 c2 : Nat, p / 18446744073709551616 = hi ∧ p % 18446744073709551616 = lo ∧ (lo + c) % 18446744073709551616 = lo2 ∧ (lo + c) / 18446744073709551616 = c1 ∧ hi + c1 < 18446744073709551616 ∧
      (t + lo2) % 18446744073709551616 = t2 ∧ (t + lo2) / 18446744073709551616 = c2 ∧ t2 = (t + p + c) % 18446744073709551616 ∧ hi + c1 + c2 = (t + p + c) / 18446744073709551616 := by
  obtain ⟨h1, h2, h3⟩ := line_round p t c hp hc
  exact ⟨_, _, _, _, _, _, rfl, rfl, rfl, rfl, h2, rfl, rfl, h1, h3⟩
theorem word_mul_le {x y : Nat} (hx : x < 18446744073709551616) (hy : y < 18446744073709551616) : x * y ≤ 18446744073709551615 * 18446744073709551615 :=
  Nat.mul_le_mul (by omega) (by omega)

/- the words of a product that begins at word i -/
theorem lw_shift_lo (P Q i j : Nat) (h : j < i) : lw (P + B64 ^ i * Q) j = lw P j := by
  rw [← lw_mod _ j i h, Nat.add_mul_mod_self_left, lw_mod _ j i h]
theorem lw_shift_hi (P Q i k : Nat) : lw (P + B64 ^ i * Q) (i + k) = lw (P / B64 ^ i + Q) k := by
  rw [← lw_div, Nat.add_mul_div_left _ _ (b64_pos i)]
theorem lw_top (a n i : Nat) (h : a < B64 ^ n) (hi : n ≤ i) : lw a i = 0 := by
  unfold lw
  rw [Nat.div_eq_of_lt (Nat.lt_of_lt_of_le h (Nat.pow_le_pow_right (by decide) hi)), Nat.zero_mod]
/- a product row by row -/
theorem row_next (a b i : Nat) : a % B64 ^ i * b + B64 ^ i * (lw a i * b) = a % B64 ^ (i + 1) * b := by
  rw [mod_succ, Nat.add_mul, Nat.mul_assoc]
/- what stands above 2^256 comes back -/
/- the two words above a line -/
theorem line_top (V x n : Nat) (hn : n < B64 ^ 4) (hV : V + x * n < B64 ^ 6) (hVV : V < B64 ^ 6) :
    (lw V 4 + cMul V x n 4) % 18446744073709551616 = lw (V + x * n) 4 ∧ lw V 5 + (lw V 4 + cMul V x n 4) / 18446744073709551616 = lw (V + x * n) 5 ∧ lw V 5 + (lw V 4 + cMul V x n 4) / 18446744073709551616 < 18446744073709551616 := by
  have z4 : lw n 4 = 0 := lw_top n 4 4 hn (by decide)
  have z5 : lw n 5 = 0 := lw_top n 4 5 hn (by decide)
  have h4 := lw_madd V x n 4
  have h5 := lw_madd V x n 5
  have c5 := cMul_succ V x n 4
  have c6 := cMul_succ V x n 5
  rw [z4, Nat.mul_zero, Nat.add_zero] at h4 c5
  rw [z5, Nat.mul_zero, Nat.add_zero] at h5 c6
  have hc6 : cMul V x n 6 = 0 := by
    rw [cMul_all V x n 6 hVV (Nat.lt_trans hn (by decide))]
    exact Nat.div_eq_of_lt hV
  rw [hc6] at c6
  rw [c5] at h5 c6
  try rw [Nat.add_zero] at h5
  try rw [Nat.add_zero] at c6
  have : lw V 5 + (lw V 4 + cMul V x n 4) / 18446744073709551616 < 18446744073709551616 := by omega
  exact ⟨h4.symm, by rw [h5, Nat.mod_eq_of_lt this], this⟩
theorem word0 (V : Nat) : lw V 0 = V % 18446744073709551616 := by simp [lw]

/-- a step of Montgomery's product -/
def mstep (M neg b T x : Nat) : Nat := (T + x * b + ((T + x * b) % 18446744073709551616 * neg % 18446744073709551616) * M) / 18446744073709551616
def montT (M neg b a : Nat) : Nat → Nat
  | 0 => 0
  | k + 1 => mstep M neg b (montT M neg b a k) (lw a k)
theorem mstep_exact (M neg b T x : Nat) (hneg : (M * neg + 1) % 18446744073709551616 = 0) :
    mstep M neg b T x * 18446744073709551616 = T + x * b + ((T + x * b) % 18446744073709551616 * neg % 18446744073709551616) * M := by
  unfold mstep
  generalize hV : T + x * b = V
  generalize hm : V % 18446744073709551616 * neg % 18446744073709551616 = m
  have key : (V + m * M) % 18446744073709551616 = 0 := by
    have h1 : (m * M) % 18446744073709551616 = (V * neg * M) % 18446744073709551616 := by
      rw [← hm, Nat.mod_mul_mod, Nat.mul_assoc, Nat.mod_mul_mod, ← Nat.mul_assoc]
    have h2 : V + V * neg * M = V * (M * neg + 1) := by rw [Nat.mul_add, Nat.mul_one, Nat.mul_assoc, Nat.mul_comm neg, Nat.add_comm]
    rw [Nat.add_mod, h1, ← Nat.add_mod, h2, Nat.mul_mod, hneg, Nat.mul_zero, Nat.zero_mod]
  have := Nat.div_add_mod (V + m * M) 18446744073709551616
  rw [key, Nat.add_zero, Nat.mul_comm] at this
  exact this
theorem mstep_lt (M neg b T x : Nat) (_ : 0 < M) (hT : T < b + M) (hx : x < 18446744073709551616) : mstep M neg b T x < b + M := by
  unfold mstep
  refine Nat.div_lt_of_lt_mul ?_
  generalize hm : (T + x * b) % 18446744073709551616 * neg % 18446744073709551616 = m
  have hm' : m < 18446744073709551616 := by rw [← hm]; exact Nat.mod_lt _ (by decide)
  have h1 : x * b ≤ 18446744073709551615 * b := Nat.mul_le_mul_right _ (by omega)
  have h2 : m * M ≤ 18446744073709551615 * M := Nat.mul_le_mul_right _ (by omega)
  omega
theorem montT_lt (M neg b a k : Nat) (hM : 0 < M) : montT M neg b a k < b + M := by
  induction k with
  | zero => show 0 < _; omega
  | succ k ih => exact mstep_lt _ _ _ _ _ hM ih (lw_lt a k)
theorem montT_mod (M neg b a k : Nat) (hneg : (M * neg + 1) % 18446744073709551616 = 0) : montT M neg b a k * B64 ^ k % M = a % B64 ^ k * b % M := by
  induction k with
  | zero => simp [montT, Nat.mod_one]
  | succ k ih =>
    show mstep _ _ _ _ _ * B64 ^ (k + 1) % M = _
    rw [← row_next, Nat.pow_succ, Nat.mul_comm (B64 ^ k), ← Nat.mul_assoc, mstep_exact M neg b _ _ hneg]
    generalize (montT M neg b a k + lw a k * b) % 18446744073709551616 * neg % 18446744073709551616 = m
    have e : (montT M neg b a k + lw a k * b + m * M) * B64 ^ k = montT M neg b a k * B64 ^ k + B64 ^ k * (lw a k * b) + M * (m * B64 ^ k) := by
      rw [Nat.add_mul, Nat.add_mul, Nat.mul_comm (lw a k * b), Nat.mul_right_comm m, Nat.mul_comm (m * B64 ^ k)]
    rw [e, Nat.add_mul_mod_self_left, Nat.add_mod, ih, ← Nat.add_mod]
/-- what a product of Montgomery's is -/
theorem mont_value (M neg Ri a b : Nat) (_ : 0 < M) (ha : a < B64 ^ 4) (hneg : (M * neg + 1) % 18446744073709551616 = 0) (hRi : B64 ^ 4 * Ri % M = 1 % M) :
    montT M neg b a 4 % M = a * b * Ri % M := by
  have h := montT_mod M neg b a 4 hneg
  rw [Nat.mod_eq_of_lt ha] at h
  generalize montT M neg b a 4 = T at *
  have h1 : T * B64 ^ 4 * Ri % M = a * b * Ri % M := by rw [Nat.mul_mod, h, ← Nat.mul_mod]
  rw [← h1, Nat.mul_assoc, Nat.mul_mod, hRi, ← Nat.mul_mod, Nat.mul_one]
theorem mod_of_lt2 (T M : Nat) (h : T < 2 * M) : T % M = if T < M then T else T - M := by
  split
  · rename_i h'; exact Nat.mod_eq_of_lt h'
  · rename_i h'; rw [Nat.mod_eq_sub_mod (by omega), Nat.mod_eq_of_lt (by omega)]
end Mvp

/- Words of 64 bits in memory, as natural numbers; math/bits.Add64, Sub64, Mul64. -/
namespace Go.Mv
open Go.RowKit Mvp
variable {P : Program}

/-- words, as cells -/
def us (l : List Nat) : List Value := l.map fun (x : Nat) => .int .u64 (x : Int)
theorem length_us (l : List Nat) : (us l).length = l.length := by simp [us]
theorem us_get (l : List Nat) (i x : Nat) (h : l[i]? = some x) : (us l)[i]? = some (.int .u64 (x : Int)) := by simp [us, h]
theorem us_set (l : List Nat) (i : Nat) (x : Nat) : (us l).set i (.int .u64 (x : Int)) = us (l.set i x) := by simp [us]
theorem us_one (l : List Nat) : ∀ v ∈ us l, v.oneCell' = true := by intro v hv; simp [us] at hv; obtain ⟨x, _, rfl⟩ := hv; rfl
/-- n words -/
def cw (n a : Nat) : List Value := us (limbs n a)
theorem cw_len (n a : Nat) : (cw n a).length = n := by rw [cw, length_us, limbs_length]
theorem cw_get (n a i : Nat) (h : i < n) : (cw n a)[i]? = some (.int .u64 (lw a i : Nat)) := us_get _ _ _ (limbs_get n a i h)
theorem cw_set (n A B k : Nat) (h : k < n) : (cw n (mix A B k)).set k (.int .u64 (lw A k : Nat)) = cw n (mix A B (k + 1)) := by
  rw [cw, us_set, limbs_set n A B k h, cw]
theorem cw_one (n a : Nat) : ∀ v ∈ cw n a, v.oneCell' = true := us_one _
theorem cw_mod (n a : Nat) : cw n (a % B64 ^ n) = cw n a := by rw [cw, limbs_mod, cw]
/-- four words by value -/
def i4 (a : Nat) : Value := .agg (cw 4 a).toArray
theorem cw_ext {n a b : Nat} (h : ∀ i, i < n → lw a i = lw b i) : cw n a = cw n b := by rw [cw, limbs_ext h, cw]
theorem mix_full (A B n : Nat) : cw n (mix A B n) = cw n A := cw_ext fun i hi => by rw [lw_mix, if_pos hi]
theorem cw_zero (n : Nat) : cw n 0 = List.replicate n (.int .u64 0) := by
  apply List.ext_getElem?
  intro i
  rcases Nat.lt_or_ge i n with h | h
  · rw [cw_get _ _ _ h, List.getElem?_replicate, if_pos h]; simp [lw]
  · rw [List.getElem?_eq_none (by rw [cw_len]; exact h), List.getElem?_replicate, if_neg (by omega)]

theorem run_index_cw {t e : TypeId} {m : Nat} (ht : P.underlying t = some (.array m e)) (he : P.underlying e = some (.int .u64)) (hi0 : (P.info? e).map (·.size) = some 1) (a k : Nat) (hk : k < m) (ki : IntKind) (w : World) :
    (Instr.index t (.agg (cw m a).toArray) (.int ki (k : Int))).run P w = .ok (.int .u64 (lw a k : Nat)) w := by
  obtain ⟨j, hj, hsz⟩ : ∃ j, P.info? e = some j ∧ j.size = 1 := by simpa using hi0
  have h1 : (0 : Int) ≤ (k : Int) ∧ (k : Int) < (m : Int) := by omega
  have hv := cw_get m a k hk
  simp [Instr.index, asIntOf, run_underlying ht, sizeOf, typeInfo, hj, hsz, part, isAgg, run_underlying he, h1, hv]
  intro h; omega
/-- the results are an array in memory and a slot -/
theorem results_arr2 {fn : Func} {p : Tmp} {ty : TypeId} {s : Tmp} (h : fn.results = #[.cell p ty, .tmp s]) {tmps : Array Value} {w : World} {g : Nat} {L : List Value} {T : TypeId}
    (hp : tmps.getD p undef = .pointer (some ⟨g, 0, none⟩)) (hg : Has w g L T) {n : Nat} {e : TypeId} (hu : P.underlying ty = some (.array n e)) (hi : (P.info? ty).map (·.size) = some L.length) {v : Value} (hv : tmps.getD s undef = v) :
    (results fn tmps).run P w = .ok (.tuple #[.agg L.toArray, v]) w := by
  obtain ⟨lo, hi', hh, -⟩ := hg
  have hp' : tmps[p]?.getD undef = .pointer (some ⟨g, 0, none⟩) := by simpa using hp
  have hv' : tmps[s]?.getD undef = v := by simpa using hv
  simp [results, h, hp', hv', asAddr, run_loadVar_row w g T ty L.toArray _ _ hh hu rfl (by simpa using hi)]
theorem i4_words (a : Nat) : i4 a = .agg #[.int .u64 (lw a 0 : Nat), .int .u64 (lw a 1 : Nat), .int .u64 (lw a 2 : Nat), .int .u64 (lw a 3 : Nat)] := rfl
theorem i4_mod (V : Nat) : i4 (V % B64 ^ 4) = i4 V := by rw [i4, cw_mod, ← i4]
theorem St.setCells {S : Nat → Prop} {w0 w : World} {bl : List (Nat × List Value × TypeId)} (h : St S w0 w bl) (i : Nat) {g : Nat} {L : List Value} {T : TypeId} (hb : bl[i]? = some (g, L, T)) (cs : List Value) (hn : cs.length = L.length) : St S w0 (w.setCells g 0 cs) (bl.set i (g, cs, T)) := by
  obtain ⟨k1, k2, _⟩ := Has.setCells cs 0 L w (h.at i hb) (by omega)
  rw [splice_whole _ _ hn] at k1
  exact h.put i hb k2 k1
theorem neg_words (p a : Nat) (h : a ≤ p) : i4 (p + B64 ^ 4 - a) = i4 (p - a) := by
  rw [← i4_mod, show p + B64 ^ 4 - a = (p - a) + B64 ^ 4 by omega, Nat.add_mod_right, i4_mod]
theorem small_words (n : Nat) (h : n < 18446744073709551616) : .agg #[.int .u64 (n : Int), .int .u64 0, .int .u64 0, .int .u64 0] = i4 n := by
  have h0 : lw n 0 = n := by simp only [lw, Nat.pow_zero, Nat.div_one]; exact Nat.mod_eq_of_lt h
  have ht := fun i (hi : 1 ≤ i) => lw_top n 1 i (by rw [Nat.pow_one]; exact h) hi
  rw [i4_words, h0, ht 1 (by decide), ht 2 (by decide), ht 3 (by decide)]
  rfl
end Go.Mv
namespace Go.Proofs.Ytdbgddngapminaa
open Go.RowKit Go.Mv Mvp
def Try.lays264_ren : Go.Shelf.Ren := ⟨fun | 264 => 119 | n => n, fun | 46 => 102 | 53 => 22 | n => n, fun | n => n⟩
theorem Try.lays264 : Go.Proofs.Lays.n264 Try.prog Try.lays264_ren := {
  mixed := by kernel_rfl
  f264 := Try.func119.trans (congrArg some (by kernel_rfl))
  t46 := Try.underlying102
  a46 := Try.isAgg102
  z46 := Try.sizeOf102
  v46 := Try.zeroValue102
  t53 := Try.underlying22
  a53 := Try.isAgg22
  z53 := Try.sizeOf22
  v53 := Try.zeroValue22 }
theorem add64_run (x y c : Nat) (hc : c ≤ 1) (w : World) : (callFunc 120 #[.int .u64 x, .int .u64 y, .int .u64 c]).run Try.prog w =
      .ok (.value (.tuple #[.int .u64 (((x + y + c) % 18446744073709551616 : Nat) : Int), .int .u64 (((x + y + c) / 18446744073709551616 : Nat) : Int)])) w := by
  rw [run_callFunc_extern Try.func120 (by kernel_rfl) (by kernel_rfl) (by kernel_rfl) (e := add64Entry) (by kernel_rfl), run_add64 x y c (by omega) (by omega) (by omega) (by omega)]
  simp only [Result.andThen]
  congr 5 <;> omega
theorem add64_run0 (x y s c : Nat) (h1 : (x + y) % 18446744073709551616 = s) (h2 : (x + y) / 18446744073709551616 = c) (w : World) : (callFunc 120 #[.int .u64 x, .int .u64 y, .int .u64 0]).run Try.prog w =
      .ok (.value (.tuple #[.int .u64 (s : Int), .int .u64 (c : Int)])) w := by
  have h := add64_run x y 0 (by omega) w
  rw [Nat.add_zero, h1, h2] at h
  exact h
theorem sub64_run (x y b : Nat) (hb : b ≤ 1) (w : World) : (callFunc 81 #[.int .u64 x, .int .u64 y, .int .u64 b]).run Try.prog w =
      .ok (.value (.tuple #[.int .u64 (((x + 18446744073709551616 - y - b) % 18446744073709551616 : Nat) : Int), .int .u64 ((if x < y + b then 1 else 0 : Nat) : Int)])) w := by
  rw [run_callFunc_extern Try.func81 (by kernel_rfl) (by kernel_rfl) (by kernel_rfl) (e := sub64Entry) (by kernel_rfl), run_sub64 x y b hb]
  rfl
/-- two results in slots -/
theorem mul64_any (x y : Nat) (hx : x < 18446744073709551616) (hy : y < 18446744073709551616) (w : World) :
    Calls Try.prog 119 #[.int .u64 x, .int .u64 y] w fun e w' => e = .returned (.tuple #[.int .u64 ((x * y / 18446744073709551616 : Nat) : Int), .int .u64 ((x * y % 18446744073709551616 : Nat) : Int)]) ∧ w = w' :=
  (Any.bits_Mul64 Try.lays264 x y hx hy w).mono fun _ _ h => ⟨h.1, h.2.symm⟩
theorem size_u64 : (Try.prog.info? 22).map (·.size) = some 1 := by kernel_rfl
end Go.Proofs.Ytdbgddngapminaa

/- Sums and differences of words: mont.Int.minus, plus; the reference's less, plus. -/
namespace Go.Proofs.Ytdbgddngapminaa
open Go.RowKit Go.Mv Mvp
attribute [local irreducible] limbs lw mix cw cSub cAdd cMul
set_option maxHeartbeats 2000000 in
set_option maxRecDepth 100000 in
theorem minus_any (a b : Nat) (w : World) (hb : b < B64 ^ 4) :
    Calls Try.prog 114 #[i4 a, i4 b] w fun e w' => e = .returned (.tuple #[i4 (a + B64 ^ 4 - b), .int .u64 (cSub a b 4 : Nat)]) ∧ Fr Nob w w' := by
  have HB := Lib.hid hb; clear hb
  have st0 := St.start Nob w
  go_enter Try.func114, Try.ntmps114
  go_wp2_with (with_reducible refine wl_stop (o := ⟨some 2, _, _, _, _, _⟩) ?_)
  refine wl_boxS st0 rfl rfl rfl (cw 4 a) rfl ?_
  intro g2 w1 st1
  clear st0
  go_wp2_with (with_reducible refine wl_stop (o := ⟨some 3, _, _, _, _, _⟩) ?_)
  refine wl_boxS st1 rfl rfl rfl (cw 4 b) rfl ?_
  intro g3 w2 st2
  clear st1
  go_wp2_with (with_reducible refine wl_stop (o := ⟨some 4, _, _, _, _, _⟩) ?_)
  refine wl_allocS st2 rfl rfl (z := .agg #[.int .u64 0, .int .u64 0, .int .u64 0, .int .u64 0]) (by kernel_rfl) (cw 4 0) (by rw [cw_zero]; rfl) ?_
  intro g4 w3 st3
  clear st2
  go_wp2
  go_loopw [5, 7] (fun c i wr => ∃ k : Nat, k ≤ 4 ∧ i = .int .i64 (k : Int) ∧ c = .int .u64 (cSub a b k : Nat) ∧ St Nob w wr [(g2, cw 4 a, 82), (g3, cw 4 b, 82), (g4, cw 4 (mix (a + B64 ^ 4 - b) 0 k), 82)]) (fun _ i _ => 4 - (intOf i).toNat)
  case atStart => exact ⟨0, by omega, rfl, by rw [cSub_zero]; rfl, by rw [mix_zero]; exact st3⟩
  case round =>
    obtain ⟨k, hk, rfl, rfl, st⟩ := hrel
    clear st3
    by_cases hlt : k < 4
    · have hltI : (k : Int) < 4 := by omega
      have c1 := (st.at 0 rfl).cell (cw_get 4 a k hlt)
      have c2 := (st.at 1 rfl).cell (cw_get 4 b k hlt)
      obtain ⟨v3, c3, f3⟩ := (st.at 2 rfl).ready (i := k) (by rw [cw_len]; exact hlt)
      have e1 := fun wx => sub64_run (lw a k) (lw b k) (cSub a b k) (cSub_le a b k) wx
      go_wp2
      go_region
      all_goals
        go_wp2
        go_roundw
        case rel =>
          have h1 := st.set 2 rfl k (.int .u64 (lw (a + B64 ^ 4 - b) k : Nat))
          rw [cw_set _ _ _ _ hlt, lw_sub 4 a b k HB.out hlt] at h1
          exact ⟨k + 1, by omega, by go_num, by rw [cSub_succ], h1.drew⟩
        case measure => simp [intOf]; omega
    · have hge : ¬ ((k : Int) < 4) := by omega
      have hk4 : k = 4 := by omega
      have HK := Lib.hid hk4; clear hk4
      go_wp2_with (with_reducible refine wl_stop (o := ⟨some 24, _, _, _, _, _⟩) ?_)
      refine wl_loadS st 2 rfl rfl rfl Try.underlying82 rfl (by rw [cw_len]; kernel_rfl) ?_
      go_wp2_with (with_reducible refine wl_stop (o := ⟨none, _, _, _, _, _⟩) ?_)
      refine wl_storeS st 2 rfl rfl rfl rfl rfl (by simp only [cw_len]) (by rw [cw_len]; kernel_rfl) (cw_one _ _) ?_
      intro w5 st5
      clear st
      have hd5 := st5.at 2 rfl
      rw [HK.out, mix_top _ _ _ (by first | decide | assumption | exact HA.out), cw_mod] at hd5
      have hf5 := st5.fr
      clear st5
      go_wp2
      exact bodyPost_ret (results_arr2 rfl rfl hd5 Try.underlying82 (by rw [cw_len]; kernel_rfl) rfl) rfl ⟨by rw [HK.out]; rfl, hf5⟩

set_option maxHeartbeats 2000000 in
set_option maxRecDepth 100000 in
theorem plus_any (a b : Nat) (w : World) :
    Calls Try.prog 118 #[i4 a, i4 b] w fun e w' => e = .returned (.tuple #[i4 (a + b), .int .u64 (cAdd a b 4 : Nat)]) ∧ Fr Nob w w' := by
  have st0 := St.start Nob w
  go_enter Try.func118, Try.ntmps118
  go_wp2_with (with_reducible refine wl_stop (o := ⟨some 2, _, _, _, _, _⟩) ?_)
  refine wl_boxS st0 rfl rfl rfl (cw 4 a) rfl ?_
  intro g2 w1 st1
  clear st0
  go_wp2_with (with_reducible refine wl_stop (o := ⟨some 3, _, _, _, _, _⟩) ?_)
  refine wl_boxS st1 rfl rfl rfl (cw 4 b) rfl ?_
  intro g3 w2 st2
  clear st1
  go_wp2_with (with_reducible refine wl_stop (o := ⟨some 4, _, _, _, _, _⟩) ?_)
  refine wl_allocS st2 rfl rfl (z := .agg #[.int .u64 0, .int .u64 0, .int .u64 0, .int .u64 0]) (by kernel_rfl) (cw 4 0) (by rw [cw_zero]; rfl) ?_
  intro g4 w3 st3
  clear st2
  go_wp2
  go_loopw [5, 7] (fun c i wr => ∃ k : Nat, k ≤ 4 ∧ i = .int .i64 (k : Int) ∧ c = .int .u64 (cAdd a b k : Nat) ∧ St Nob w wr [(g2, cw 4 a, 82), (g3, cw 4 b, 82), (g4, cw 4 (mix (a + b) 0 k), 82)]) (fun _ i _ => 4 - (intOf i).toNat)
  case atStart => exact ⟨0, by omega, rfl, by rw [cAdd_zero]; rfl, by rw [mix_zero]; exact st3⟩
  case round =>
    obtain ⟨k, hk, rfl, rfl, st⟩ := hrel
    clear st3
    by_cases hlt : k < 4
    · have hltI : (k : Int) < 4 := by omega
      have c1 := (st.at 0 rfl).cell (cw_get 4 a k hlt)
      have c2 := (st.at 1 rfl).cell (cw_get 4 b k hlt)
      obtain ⟨v3, c3, f3⟩ := (st.at 2 rfl).ready (i := k) (by rw [cw_len]; exact hlt)
      have e1 := fun wx => add64_run (lw a k) (lw b k) (cAdd a b k) (cAdd_le a b k) wx
      go_wp2
      go_region
      all_goals
        go_wp2
        go_roundw
        case rel =>
          have h1 := st.set 2 rfl k (.int .u64 (lw (a + b) k : Nat))
          rw [cw_set _ _ _ _ hlt, lw_add a b k] at h1
          exact ⟨k + 1, by omega, by go_num, by rw [cAdd_succ]; go_num, h1.drew⟩
        case measure => simp [intOf]; omega
    · have hge : ¬ ((k : Int) < 4) := by omega
      have hk4 : k = 4 := by omega
      have HK := Lib.hid hk4; clear hk4
      go_wp2_with (with_reducible refine wl_stop (o := ⟨some 24, _, _, _, _, _⟩) ?_)
      refine wl_loadS st 2 rfl rfl rfl Try.underlying82 rfl (by rw [cw_len]; kernel_rfl) ?_
      go_wp2_with (with_reducible refine wl_stop (o := ⟨none, _, _, _, _, _⟩) ?_)
      refine wl_storeS st 2 rfl rfl rfl rfl rfl (by simp only [cw_len]) (by rw [cw_len]; kernel_rfl) (cw_one _ _) ?_
      intro w5 st5
      clear st
      have hd5 := st5.at 2 rfl
      rw [HK.out, mix_top _ _ _ (by first | decide | assumption | exact HA.out), cw_mod] at hd5
      have hf5 := st5.fr
      clear st5
      go_wp2
      exact bodyPost_ret (results_arr2 rfl rfl hd5 Try.underlying82 (by rw [cw_len]; kernel_rfl) rfl) rfl ⟨by rw [HK.out]; rfl, hf5⟩

end Go.Proofs.Ytdbgddngapminaa

/- mont.line: a word times a number, added to the lowest words. -/
namespace Go.Proofs.Ytdbgddngapminaa
open Go.RowKit Go.Mv Mvp
attribute [local irreducible] limbs lw mix cw cSub cAdd cMul
set_option maxHeartbeats 4000000 in
set_option maxRecDepth 100000 in
theorem line_any (gt V x n top : Nat) (T : TypeId) (w : World) (ht : Has w gt (cw 6 V) T) (hx : x < 18446744073709551616) (_ : top < 18446744073709551616) :
    Calls Try.prog 116 #[.pointer (some ⟨gt, 0, none⟩), .int .u64 (x : Int), i4 n, .int .u64 (top : Int)] w fun e w' =>
      e = .returned (.tuple #[.int .u64 (((top + cMul V x n 4) % 18446744073709551616 : Nat) : Int), .int .u64 (((top + cMul V x n 4) / 18446744073709551616 : Nat) : Int)]) ∧
      Has w' gt (cw 6 (mix (V + x * n) V 4)) T ∧ Fr (One gt) w w' := by
  have st0 := St.one ht
  clear ht
  have HX := Lib.hid hx
  go_enter Try.func116, Try.ntmps116
  go_wp2_with (with_reducible refine wl_stop (o := ⟨some 6, _, _, _, _, _⟩) ?_)
  refine wl_boxS st0 rfl rfl rfl (cw 4 n) rfl ?_
  intro gn w1 st1
  clear st0
  go_wp2_with (with_reducible refine wl_stop (o := ⟨some 16, _, _, _, _, _⟩) ?_)
  refine wl_loadS st1 1 rfl rfl rfl Try.underlying82 rfl (by rw [cw_len]; kernel_rfl) ?_
  go_wp2
  go_loopw [10, 17] (fun c i wr => ∃ k : Nat, k ≤ 4 ∧ i = .int .i64 (k : Int) ∧ c = .int .u64 (cMul V x n k : Nat) ∧ St (One gt) w wr [(gt, cw 6 (mix (V + x * n) V k), T)]) (fun _ i _ => 4 - (intOf i).toNat)
  case atStart => exact ⟨0, by omega, rfl, by rw [cMul_zero]; rfl, by rw [mix_zero]; exact st1.less (by simp)⟩
  case round =>
    obtain ⟨k, hk, rfl, rfl, st⟩ := hrel
    clear st1
    have hcm := cMul_lt V x n k HX.out
    by_cases hlt : k < 4
    · have hltI : (k : Int) < 4 := by omega
      have e0 := fun wx => run_index_cw (P := Try.prog) Try.underlying82 Try.underlying22 size_u64 n k hlt .i64 wx
      have hp := word_mul_le HX.out (lw_lt n k)
      have hms := cMul_succ V x n k
      have hlm := lw_madd V x n k
      have hms2 := cMul_lt V x n (k + 1) HX.out
      obtain ⟨hi, lo, lo2, c1, t2, c2, r1, r2, r3, r4, r5, r6, r7, r8, r9⟩ := line_names (x * lw n k) (lw V k) (cMul V x n k) hp hcm
      rw [← r8] at hlm
      rw [← r9] at hms
      rw [hms] at hms2
      have hmul := fun wx => mul64_any x (lw n k) HX.out (lw_lt n k) wx
      rw [r1, r2] at hmul
      have e2 := fun wx => add64_run0 lo (cMul V x n k) lo2 c1 r3 r4 wx
      have e3 := fun wx => add64_run0 (lw V k) lo2 t2 c2 r6 r7 wx
      obtain ⟨v3, c3, f3⟩ := (st.at 0 rfl).ready (i := k) (by rw [cw_len]; omega)
      have c1' : wr.cell? ⟨gt, k, none⟩ = some (.int .u64 (lw V k : Nat)) := by have h := (st.at 0 rfl).cell (cw_get 6 (mix (V + x * n) V k) k (by omega)); rwa [lw_mix, if_neg (Nat.lt_irrefl k)] at h
      clear c3 hp r1 r2 r3 r4 r6 r7 r8 r9
      have HMUL := Lib.hid hmul; clear hmul
      have HMS := Lib.hid hms; clear hms
      have HLM := Lib.hid hlm; clear hlm
      go_wp2_with fail
      refine (HMUL.out _).mono ?_
      rintro e' w' ⟨rfl, rfl⟩
      go_wp2_with fail
      go_region
      all_goals
        go_wp2
        go_roundw
        case rel =>
          have h1 := st.set 0 rfl k (.int .u64 (lw (V + x * n) k : Nat))
          rw [cw_set _ _ _ _ (by omega), HLM.out] at h1
          exact ⟨k + 1, by omega, by go_num, by rw [HMS.out]; go_num, h1.drew⟩
        case measure => simp [intOf]; omega
    · have hge : ¬ ((k : Int) < 4) := by omega
      have hk4 : k = 4 := by omega
      have HK := Lib.hid hk4; clear hk4
      have e2 := fun wx => add64_run0 top (cMul V x n k) _ _ rfl rfl wx
      go_wp2
      go_ret2
      rw [← HK.out]
      exact ⟨rfl, st.at 0 rfl, st.fr⟩
end Go.Proofs.Ytdbgddngapminaa

/- mintvaultref2.product: the product of two numbers of four words. -/
namespace Go.Proofs.Ytdbgddngapminaa
open Go.RowKit Go.Mv Mvp
attribute [local irreducible] limbs lw mix cw cSub cAdd cMul
end Go.Proofs.Ytdbgddngapminaa

/- (mintvaultref2.F).Less: a number of eight words modulo the prime. -/
namespace Go.Proofs.Ytdbgddngapminaa
open Go.RowKit Go.Mv Mvp
attribute [local irreducible] limbs lw mix cw cSub cAdd cMul
end Go.Proofs.Ytdbgddngapminaa

/- The reference's F: Mul, Add, Neg, Sub; N: Zero, Below, Bit, Small. -/
namespace Go.Proofs.Ytdbgddngapminaa
open Go.RowKit Go.Mv Mvp
attribute [local irreducible] limbs lw mix cw cSub cAdd cMul
end Go.Proofs.Ytdbgddngapminaa

/- Plain numbers: bytes, the highest first; bits. -/
namespace Mvp

/-- bytes as a number, the highest first -/
def beN (l : List UInt8) : Nat := l.foldl (fun a x => a * 256 + x.toNat) 0
theorem beN_nil : beN [] = 0 := rfl
theorem beN_snoc (l : List UInt8) (x : UInt8) : beN (l ++ [x]) = beN l * 256 + x.toNat := by simp [beN]
theorem beN_lt (l : List UInt8) : beN l < 256 ^ l.length := by
  have h : ∀ (n : Nat) (l : List UInt8), l.length = n → beN l < 256 ^ n := by
    intro n
    induction n with
    | zero => intro l hl; rw [List.length_eq_zero_iff.1 hl]; decide
    | succ n ih =>
      intro l hl
      obtain ⟨m, x, rfl⟩ : ∃ m x, l = m ++ [x] := by
        rcases List.eq_nil_or_concat l with h | ⟨m, x, h⟩
        · subst h; simp at hl
        · exact ⟨m, x, by simpa using h⟩
      have := ih m (by simpa using hl)
      have hx := x.toNat_lt
      rw [beN_snoc, Nat.pow_succ]
      omega
  exact h _ l rfl
theorem beN_take (l : List UInt8) (i : Nat) (h : i < l.length) : beN (l.take (i + 1)) = beN (l.take i) * 256 + (l.getD i 0).toNat := by
  rw [List.take_succ_eq_append_getElem h, beN_snoc]
  simp [List.getD_eq_getElem?_getD, h]
/-- what has been laid when i bytes are read -/
def laid (l : List UInt8) (i : Nat) : Nat := beN (l.take i) * 256 ^ (l.length - i)
theorem laid_zero (l : List UInt8) : laid l 0 = 0 := by simp [laid, beN]
theorem laid_all (l : List UInt8) : laid l l.length = beN l := by simp [laid]
theorem laid_succ (l : List UInt8) (i : Nat) (h : i < l.length) : laid l (i + 1) = laid l i + (l.getD i 0).toNat * 256 ^ (l.length - 1 - i) := by
  unfold laid
  rw [beN_take l i h, Nat.add_mul, Nat.mul_assoc, show l.length - i = (l.length - 1 - i) + 1 by omega, Nat.pow_succ, Nat.mul_comm 256, show l.length - (i + 1) = l.length - 1 - i by omega]
theorem laid_mod (l : List UInt8) (i : Nat) (h : i < l.length) : laid l i % 256 ^ (l.length - 1 - i + 1) = 0 := by
  unfold laid
  rw [show l.length - 1 - i + 1 = l.length - i by omega, Nat.mul_mod_left]
theorem pow256 (k : Nat) : 256 ^ k = B64 ^ (k / 8) * 2 ^ (8 * (k % 8)) := by
  have e1 : (256 : Nat) = 2 ^ 8 := by decide
  have e2 : B64 = 2 ^ 64 := by decide
  rw [e1, e2, ← Nat.pow_mul, ← Nat.pow_mul, ← Nat.pow_add]
  congr 1
  omega
theorem byte_shift_lt (x r : Nat) (hx : x < 256) : x * 2 ^ r < 2 ^ (r + 8) := by
  rw [Nat.pow_add, Nat.mul_comm (2 ^ r)]
  exact Nat.mul_lt_mul_of_pos_right hx (Nat.two_pow_pos r)
theorem word_or (A y r : Nat) (hr : r + 8 ≤ 64) (hy : y < 2 ^ (r + 8)) (hA : A % 2 ^ (r + 8) = 0) : (A % B64) ||| y = (A + y) % B64 ∧ (A + y) / B64 = A / B64 := by
  obtain ⟨c, hc⟩ : ∃ c, B64 = 2 ^ (r + 8) * c := ⟨2 ^ (64 - (r + 8)), by rw [← Nat.pow_add, show r + 8 + (64 - (r + 8)) = 64 by omega]⟩
  obtain ⟨m, rfl⟩ : ∃ m, A = 2 ^ (r + 8) * m := ⟨A / 2 ^ (r + 8), by have := Nat.div_add_mod A (2 ^ (r + 8)); omega⟩
  have hc0 : 0 < c := by
    rcases Nat.eq_zero_or_pos c with h | h
    · rw [h, Nat.mul_zero] at hc; exact absurd hc (by decide)
    · exact h
  have hp := Nat.two_pow_pos (r + 8)
  rw [hc]
  have e1 : 2 ^ (r + 8) * m % (2 ^ (r + 8) * c) = 2 ^ (r + 8) * (m % c) := Nat.mul_mod_mul_left _ _ _
  have hmc := Nat.mod_lt m hc0
  have e3 : 2 ^ (r + 8) * m + y = (2 ^ (r + 8) * c) * (m / c) + (2 ^ (r + 8) * (m % c) + y) := by
    have := Nat.div_add_mod m c
    have h2 : 2 ^ (r + 8) * m = 2 ^ (r + 8) * (c * (m / c) + m % c) := by rw [this]
    rw [h2, Nat.mul_add, Nat.mul_assoc]; omega
  have hlt : 2 ^ (r + 8) * (m % c) + y < 2 ^ (r + 8) * c := by
    have h1 : 2 ^ (r + 8) * (m % c + 1) ≤ 2 ^ (r + 8) * c := Nat.mul_le_mul_left _ hmc
    rw [Nat.mul_add, Nat.mul_one] at h1
    omega
  constructor
  · rw [e1, ← Nat.two_pow_add_eq_or_of_lt hy, e3, Nat.mul_add_mod, Nat.mod_eq_of_lt hlt]
  · rw [e3, Nat.mul_add_div (Nat.mul_pos hp hc0), Nat.div_eq_of_lt hlt, Nat.add_zero, Nat.mul_div_mul_left _ _ hp]
/-- a byte is laid -/
theorem of_step (n N k x : Nat) (hx : x < 256) (hN : N % 256 ^ (k + 1) = 0) (hk : k / 8 < n) : (limbs n N).set (k / 8) (lw N (k / 8) ||| x * 2 ^ (8 * (k % 8))) = limbs n (N + x * 256 ^ k) := by
  have hA : N / B64 ^ (k / 8) % 2 ^ (8 * (k % 8) + 8) = 0 := by
    have e : 256 ^ (k + 1) = B64 ^ (k / 8) * 2 ^ (8 * (k % 8) + 8) := by rw [Nat.pow_succ, pow256, Nat.mul_assoc, Nat.pow_add]
    rw [e] at hN
    rw [← Nat.mod_mul_right_div_self, hN, Nat.zero_div]
  obtain ⟨h1, h2⟩ := word_or (N / B64 ^ (k / 8)) (x * 2 ^ (8 * (k % 8))) (8 * (k % 8)) (by omega) (byte_shift_lt x _ hx) hA
  have e : N + x * 256 ^ k = N + B64 ^ (k / 8) * (x * 2 ^ (8 * (k % 8))) := by rw [pow256, Nat.mul_left_comm]
  rw [e]
  apply List.ext_getElem?
  intro i
  rw [List.getElem?_set, limbs_length]
  rcases Nat.lt_or_ge i n with hi | hi
  · rw [limbs_get _ _ _ hi, limbs_get _ _ _ hi]
    rcases Nat.lt_trichotomy i (k / 8) with h | h | h
    · rw [if_neg (by omega), lw_shift_lo _ _ _ _ h]
    · subst h
      rw [if_pos rfl, if_pos hi]
      congr 1
      have := lw_shift_hi N (x * 2 ^ (8 * (k % 8))) (k / 8) 0
      rw [Nat.add_zero] at this
      rw [this]
      simp only [lw, Nat.pow_zero, Nat.div_one]
      exact h1
    · rw [if_neg (by omega)]
      congr 1
      obtain ⟨j, rfl⟩ : ∃ j, i = k / 8 + (1 + j) := ⟨i - k / 8 - 1, by omega⟩
      rw [lw_shift_hi, ← lw_div N, ← lw_div _ 1 j, ← lw_div _ 1 j, Nat.pow_one, h2]
  · rw [if_neg (by omega), List.getElem?_eq_none (by rw [limbs_length]; exact hi), List.getElem?_eq_none (by rw [limbs_length]; exact hi)]

/-- a number as 32 bytes, the highest first -/
def be32 (N : Nat) : List UInt8 := (List.range 32).map fun i => UInt8.ofNat (N / 256 ^ (31 - i))
theorem be32_len (N : Nat) : (be32 N).length = 32 := by simp [be32]
theorem be32_get (N i : Nat) (h : i < 32) : (be32 N).getD i 0 = UInt8.ofNat (N / 256 ^ (31 - i)) := by simp [be32, List.getD_eq_getElem?_getD, h]
theorem byte_of (N k : Nat) : lw N (k / 8) / 2 ^ (8 * (k % 8)) % 256 = N / 256 ^ k % 256 := by
  unfold lw
  rw [pow256, ← Nat.div_div_eq_div_mul]
  generalize N / B64 ^ (k / 8) = A
  have hr : 8 * (k % 8) + 8 ≤ 64 := by omega
  generalize 8 * (k % 8) = r at *
  have e : B64 = 2 ^ r * 2 ^ (64 - r) := by rw [← Nat.pow_add, show r + (64 - r) = 64 by omega]
  rw [e, Nat.mod_mul_right_div_self]
  exact Nat.mod_mod_of_dvd _ ⟨2 ^ (64 - r - 8), by rw [show (256 : Nat) = 2 ^ 8 from rfl, ← Nat.pow_add, show 8 + (64 - r - 8) = 64 - r by omega]⟩
theorem bit_of (N i : Nat) : lw N (i / 64) / 2 ^ (i % 64) % 2 = N / 2 ^ i % 2 := by
  unfold lw
  have e1 : 2 ^ i = B64 ^ (i / 64) * 2 ^ (i % 64) := by
    rw [show B64 = 2 ^ 64 from rfl, ← Nat.pow_mul, ← Nat.pow_add]
    congr 1; omega
  rw [e1, ← Nat.div_div_eq_div_mul]
  generalize N / B64 ^ (i / 64) = A
  have hr : i % 64 + 1 ≤ 64 := by omega
  generalize i % 64 = r at *
  have e : B64 = 2 ^ r * 2 ^ (64 - r) := by rw [← Nat.pow_add, show r + (64 - r) = 64 by omega]
  rw [e, Nat.mod_mul_right_div_self]
  exact Nat.mod_mod_of_dvd _ ⟨2 ^ (64 - r - 1), by rw [show (2 : Nat) ^ (64 - r) = 2 ^ (1 + (64 - r - 1)) by congr 1; omega, Nat.pow_add, Nat.pow_one]⟩
theorem beN_be32 (N : Nat) (h : N < 256 ^ 32) : beN (be32 N) = N := by
  have key : ∀ n, n ≤ 32 → beN ((be32 N).take n) = N / 256 ^ (32 - n) := by
    intro n
    induction n with
    | zero => intro _; simp only [List.take_zero, beN_nil, Nat.sub_zero]; exact (Nat.div_eq_of_lt h).symm
    | succ n ih =>
      intro hn
      rw [beN_take _ _ (by rw [be32_len]; omega), ih (by omega), be32_get _ _ (by omega), show 32 - (n + 1) = 31 - n by omega, show 32 - n = (31 - n) + 1 by omega, Nat.pow_succ, ← Nat.div_div_eq_div_mul]
      simp only [UInt8.toNat_ofNat']
      have := Nat.div_add_mod (N / 256 ^ (31 - n)) 256
      show _ * 256 + N / 256 ^ (31 - n) % 256 = _
      omega
  have := key 32 (Nat.le_refl _)
  rw [List.take_of_length_le (by rw [be32_len]; exact Nat.le_refl _)] at this
  simpa using this
theorem powm_half (n i : Nat) : n / 2 ^ i = 2 * (n / 2 ^ (i + 1)) + n / 2 ^ i % 2 := by
  rw [Nat.pow_succ, ← Nat.div_div_eq_div_mul]
  have := Nat.div_add_mod (n / 2 ^ i) 2
  omega
theorem beN_le32 (l : List UInt8) (h : l.length ≤ 32) : beN l < B64 ^ 4 :=
  Nat.lt_of_lt_of_le (beN_lt l) (Nat.le_trans (Nat.pow_le_pow_right (by decide) h) (by decide))
theorem beN_append (a b : List UInt8) : beN (a ++ b) = beN a * 256 ^ b.length + beN b := by
  have key : ∀ (n : Nat) (b : List UInt8), b.length = n → beN (a ++ b) = beN a * 256 ^ n + beN b := by
    intro n
    induction n with
    | zero => intro b hb; rw [List.length_eq_zero_iff.1 hb]; simp [beN_nil]
    | succ n ih =>
      intro b hb
      obtain ⟨m, x, rfl⟩ : ∃ m x, b = m ++ [x] := by
        rcases List.eq_nil_or_concat b with h | ⟨m, x, h⟩
        · subst h; simp at hb
        · exact ⟨m, x, by simpa using h⟩
      rw [← List.append_assoc, beN_snoc, ih m (by simpa using hb), beN_snoc, Nat.pow_succ, Nat.add_mul, ← Nat.mul_assoc, Nat.add_assoc]
  exact key _ b rfl
end Mvp

/- Bytes and bits of numbers: the reference's Of, Bytes, Bit; mont's FromBytes, Bytes, Bit. -/
namespace Go.Proofs.Ytdbgddngapminaa
open Go.RowKit Go.Mv Mvp
attribute [local irreducible] limbs lw mix cw cSub cAdd cMul beN laid be32
theorem wid_shl (x : UInt8) (r : Nat) (hr : r + 8 ≤ 64) : (shl (wid x) r).toNat = x.toNat * 2 ^ r := by
  have hx := x.toNat_lt
  have h1 : x.toNat * 2 ^ r < 2 ^ (r + 8) := byte_shift_lt x.toNat r hx
  have h2 : 2 ^ (r + 8) ≤ 2 ^ 64 := Nat.pow_le_pow_right (by omega) hr
  simp only [shl, wid, UInt64.toNat_ofNat', UInt8.toNat_toUInt64]
  exact Nat.mod_eq_of_lt (Nat.lt_of_lt_of_le h1 h2)

theorem size_mi : (Try.prog.info? 82).map (·.size) = some 4 := by kernel_rfl
set_option maxHeartbeats 2000000 in
set_option maxRecDepth 100000 in
theorem FromBytes_any (a : Option Addr) (n c : Nat) (l : List UInt8) (w : World) (hb : RdB w a n l) (hs : n ≤ 32) :
    Calls Try.prog 87 #[.slice a n c] w fun e w' => e = .returned (i4 (beN l)) ∧ Fr Nob w w' := by
  have HS := Lib.hid hs
  have hsz : l.length = n := hb.len
  have HBB := Lib.hid hb; clear hb
  have HSZ := Lib.hid hsz
  clear hs hsz
  have st0 := St.start Nob w
  go_enter Try.func87, Try.ntmps87
  go_wp2_with (with_reducible refine wl_stop (o := ⟨some 2, _, _, _, _, _⟩) ?_)
  refine wl_allocS st0 rfl rfl (z := .agg #[.int .u64 0, .int .u64 0, .int .u64 0, .int .u64 0]) (by kernel_rfl) (cw 4 0) (by rw [cw_zero]; rfl) ?_
  intro g2 w1 st1
  clear st0
  have hmx : n ≤ 32 := HS.out
  go_wp2
  go_loopw [8] (fun i wr => ∃ k : Nat, k ≤ n ∧ i = .int .i64 (k : Int) ∧ St Nob w wr [(g2, cw 4 (laid l k), 82)]) (fun i _ => n - (intOf i).toNat)
  case atStart => exact ⟨0, by omega, rfl, by rw [laid_zero]; exact st1⟩
  case round =>
    obtain ⟨i, hi, rfl, st⟩ := hrel
    clear st1
    by_cases hlt : i < n
    · have hltI : (i : Int) < (n : Int) := by omega
      have hll : i < l.length := by rw [HSZ.out]; exact hlt
      have hstep := of_step 4 (laid l i) (n - 1 - i) (l.getD i 0).toNat (UInt8.toNat_lt _) (by have := laid_mod l i hll; rwa [HSZ.out] at this) (by omega)
      have hsucc := laid_succ l i hll
      rw [HSZ.out] at hsucc
      rw [← hsucc] at hstep
      obtain ⟨gb, ob, rfl, hcx⟩ := (HBB.out.still st.fr).at (by omega)
      have hx := hcx i hlt
      clear hcx
      have hd1 : (n : Int) - 1 - (i : Int) = ((n - 1 - i : Nat) : Int) := by omega
      generalize hN' : laid l (i + 1) = N' at *
      have HN' := Lib.hid hN'; clear hN'
      generalize hN : laid l i = N at *
      generalize l.getD i 0 = x at *
      have hk32 : n - 1 - i < 32 := by omega
      generalize hk : n - 1 - i = k at *
      have HN := Lib.hid hN; clear hN
      have HK := Lib.hid hk; clear hk
      have HSTEP := Lib.hid hstep; clear hstep
      have HD := Lib.hid hd1; clear hd1 hsucc hll
      have c1 := (st.at 0 rfl).cell (cw_get 4 N (k / 8) (by omega))
      have f1 := (st.at 0 rfl).free (k / 8) (by rw [cw_len]; omega)
      have hlo : (0 : Int) ≤ (k : Int) / 8 ∧ (k : Int) / 8 < 4 := by omega
      have hor := bits_or_u64_nat (lw N (k / 8)) ((shl (wid x) (8 * (k % 8))).toNat) (lw_lt _ _) (u64_lt _)
      rw [wid_shl x (8 * (k % 8)) (by omega)] at hor
      simp only [Int.natCast_mul, Int.natCast_pow, Int.cast_ofNat_Int] at hor
      have HSH := Lib.hid (wid_shl x (8 * (k % 8)) (by omega))
      go_wp2_with fail
      rw [HD.out]
      have e1 : IntKind.i64.wrap ((k : Int) / 8) = (k : Int) / 8 := IntWalk.i64_in _ (by omega)
      have e2 : (k : Int).tmod 8 = (k : Int) % 8 := Int.tmod_eq_emod_of_nonneg (by omega)
      have e3 : IntKind.i64.wrap (8 * ((k : Int) % 8)) = 8 * ((k : Int) % 8) := IntWalk.i64_in _ (by omega)
      have e4 : ((k : Int) / 8).toNat = k / 8 := by omega
      refine wp_region_still_tail 12 (by kernel_rfl) (by kernel_rfl) ?_
      simp only [List.take_succ_cons, List.take_zero, List.drop_succ_cons, List.drop_zero]
      repeat still_step
      refine wpStill_nil ?_
      have hsh := HSH.out
      have hst := (st.set 0 rfl (k / 8) (.int .u64 ((lw N (k / 8) ||| x.toNat * 2 ^ (8 * (k % 8)) : Nat) : Int))).drew
      have hS : (cw 4 N).set (k / 8) (.int .u64 ((lw N (k / 8) ||| x.toNat * 2 ^ (8 * (k % 8)) : Nat) : Int)) = cw 4 N' := by
        rw [cw, us_set, HSTEP.out, cw]
      rw [hS] at hst
      have HST := Lib.hid hst
      clear hst hS
      go_wp2
      go_roundw
      case rel => exact ⟨i + 1, by omega, by go_num, by rw [HN'.out]; exact HST.out⟩
      case measure => simp [intOf]; omega
    · have hge : ¬ ((i : Int) < (n : Int)) := by omega
      have hi2 : i = l.length := by rw [HSZ.out]; omega
      rw [hi2, laid_all] at st
      clear hi2
      go_wp2_with (with_reducible refine wl_stop (o := ⟨some 31, _, _, _, _, _⟩) ?_)
      refine wl_loadS st 0 rfl rfl rfl Try.underlying82 rfl (by rw [cw_len]; exact size_mi) ?_
      go_wp2_with (with_reducible refine wl_stop (o := ⟨none, _, _, _, _, _⟩) ?_)
      refine wl_storeS st 0 rfl rfl rfl rfl rfl (by rw [cw_len]) (by rw [cw_len]; exact size_mi) (cw_one _ _) ?_
      intro w9 st9
      clear st
      have hr := st9.at 0 rfl
      have hfr := st9.fr
      clear st9
      go_wp2
      exact bodyPost_ret (results_arr rfl rfl hr Try.underlying82 (by rw [cw_len]; exact size_mi)) rfl ⟨rfl, hfr⟩
end Go.Proofs.Ytdbgddngapminaa

/- mintvaultref1.Lent: the bytes of a text, at the front of a longer list. -/
namespace Go.Proofs.Ytdbgddngapminaa
open Go.RowKit Go.Mv Mvp

theorem info_u8 : (Try.prog.info? 5).map (fun i => (i.zero, i.size, i.bytes)) = some (some (.int .u8 0), 1, 1) := by kernel_rfl
theorem size_u8 : (Try.prog.info? 5).map (·.size) = some 1 := by kernel_rfl

end Go.Proofs.Ytdbgddngapminaa

/- mont's and the reference's Bytes; Bit. -/
namespace Go.Proofs.Ytdbgddngapminaa
open Go.RowKit Go.Mv Mvp
theorem ret_intN {k : IntKind} {a b : Int} (h : a = b) : Ending.returned (.int k a) = .returned (.int k b) := by rw [h]
attribute [local irreducible] limbs lw mix cw cSub cAdd cMul beN laid be32
set_option maxHeartbeats 2000000 in
set_option maxRecDepth 100000 in
theorem MBytes_any (N : Nat) (w : World) :
    Calls Try.prog 107 #[i4 N] w fun e w' => ∃ v, e = .returned v ∧ Own w' w.heap.size 5 1 v 32 (bs (be32 N)) ∧ Fr Nob w w' := by
  have st0 := St.start Nob w
  go_enter Try.func107, Try.ntmps107
  go_wp2_with (with_reducible refine wl_stop (o := ⟨some 1, _, _, _, _, _⟩) ?_)
  refine wl_boxS st0 rfl rfl rfl (cw 4 N) rfl ?_
  intro g1 w1 st1
  clear st0
  go_wp2_with (with_reducible refine wl_stop (o := ⟨some 6, _, _, _, _, _⟩) ?_)
  refine wl_make rfl rfl Try.underlying34 info_u8 rfl rfl rfl 32 32 (by simp) (by simp) (by omega) (by omega) (by unfold maxLen; omega) ?_
  intro w2 hg2 hf2 hz2
  clear hz2
  have hb2 : w.heap.size ≤ w1.heap.size := st1.fr.size
  have st2 := st1.new hf2 hg2 (Nat.le_refl _)
  clear st1 hg2 hf2
  generalize w1.heap.size = gb at *
  have HBB := Lib.hid hb2; clear hb2
  go_wp2
  go_loopw [9] (fun i wr => ∃ k : Nat, k ≤ 32 ∧ i = .int .i64 (k : Int) ∧ St Nob w wr [(g1, cw 4 N, 82), (gb, bs (fill (be32 N) (List.replicate 32 0) k), 5)]) (fun i _ => 32 - (intOf i).toNat)
  case atStart => exact ⟨0, by omega, rfl, st2⟩
  case round =>
    obtain ⟨i, hi, rfl, st⟩ := hrel
    clear st2
    by_cases hlt : i < 32
    · have hltI : (i : Int) < 32 := by omega
      have hd1 : (31 : Int) - (i : Int) = ((31 - i : Nat) : Int) := by omega
      have hgl := be32_get N i hlt
      have hgb := byte_of N (31 - i)
      have hk32 : 31 - i < 32 := by omega
      generalize hk : 31 - i = k at *
      have HK := Lib.hid hk; clear hk
      have HGL := Lib.hid hgl; clear hgl
      have HGB := Lib.hid hgb; clear hgb
      have c1 := (st.at 0 rfl).cell (cw_get 4 N (k / 8) (by omega))
      obtain ⟨v3, c3, f3⟩ := (st.at 1 rfl).ready (i := i) (by rw [length_bs, fill_length _ _ _ (by rw [be32_len]; simp)]; simpa using hlt)
      have hlo : (0 : Int) ≤ (k : Int) / 8 ∧ (k : Int) / 8 < 4 := by omega
      have e4 : ((k : Int) / 8).toNat = k / 8 := by omega
      go_wp2
      go_roundw
      case rel =>
        have h1 := st.set 1 rfl i (.int .u8 (((be32 N).getD i 0).toNat : Int))
        rw [bs_set, fill_set _ _ _ (by rw [be32_len]; simp) (by rw [be32_len]; omega)] at h1
        have e : (((be32 N).getD i 0).toNat : Int) = (lw N (k / 8) : Int) / 2 ^ (8 * (k % 8)) % 256 := by
          rw [HGL.out, UInt8.toNat_ofNat']
          have := HGB.out
          rw [show (2 : Nat) ^ 8 = 256 from rfl, ← this]
          simp
        rw [e] at h1
        exact ⟨i + 1, by omega, by go_num, h1⟩
      case measure => simp [intOf]; omega
    · have hge : ¬ ((i : Int) < 32) := by omega
      have hi32 : i = 32 := by omega
      have hown : Own wr w.heap.size 5 1 (.slice (some ⟨gb, 0, none⟩) 32 32) 32 (bs (be32 N)) := by
        have h := st.at 1 rfl
        rw [hi32, fill_all _ _ _ (by rw [be32_len]; simp) (by rw [be32_len]; exact Nat.le_refl _)] at h
        have := Own.made h w.heap.size HBB.out 1 32 32 (Nat.le_refl _) (by unfold maxLen; omega) (by rw [length_bs, be32_len]; omega)
        rwa [List.take_of_length_le (by rw [length_bs, be32_len]; exact Nat.le_refl _)] at this
      have hfr := st.fr
      clear st hi32
      go_wp2
      go_ret
      exact ⟨_, rfl, hown, hfr⟩
set_option maxHeartbeats 2000000 in
set_option maxRecDepth 100000 in
theorem MBit_any (N i : Nat) (w : World) (hi : i < 256) :
    Calls Try.prog 126 #[i4 N, .int .i64 (i : Int)] w fun e w' => e = .returned (.int .u64 ((N / 2 ^ i % 2 : Nat) : Int)) ∧ Fr Nob w w' := by
  have hb := bit_of N i
  have HB := Lib.hid hb; clear hb
  have st0 := St.start Nob w
  go_enter Try.func126, Try.ntmps126
  go_wp2_with (with_reducible refine wl_stop (o := ⟨some 2, _, _, _, _, _⟩) ?_)
  refine wl_boxS st0 rfl rfl rfl (cw 4 N) rfl ?_
  intro g1 w1 st1
  clear st0
  have c1 := (st1.at 0 rfl).cell (cw_get 4 N (i / 64) (by omega))
  have hlo : (0 : Int) ≤ (i : Int) / 64 ∧ (i : Int) / 64 < 4 := by omega
  have hlo2 : (0 : Int) ≤ (i : Int) % 64 ∧ (i : Int) % 64 < 64 := by omega
  have e4 : ((i : Int) / 64).toNat = i / 64 := by omega
  have e5 : ((i : Int) % 64).toNat = i % 64 := by omega
  have hfr := st1.fr
  clear st1
  have hw : lw N (i / 64) / 2 ^ (i % 64) < 18446744073709551616 := Nat.lt_of_le_of_lt (Nat.div_le_self _ _) (lw_lt _ _)
  have ha := bits_and_u64_nat (lw N (i / 64) / 2 ^ (i % 64)) 1 hw (by omega)
  rw [Nat.and_one_is_mod] at ha
  simp only [Int.natCast_ediv, Int.natCast_pow, Int.cast_ofNat_Int] at ha
  go_wp2
  go_ret
  refine ⟨ret_intN ?_, hfr⟩
  rw [← HB.out]
  simp
end Go.Proofs.Ytdbgddngapminaa

/- The reference's Pow, Inv, Number, Mod. -/
namespace Go.Proofs.Ytdbgddngapminaa
open Go.RowKit Go.Mv Mvp
attribute [local irreducible] limbs lw mix cw cSub cAdd cMul beN laid be32
end Go.Proofs.Ytdbgddngapminaa

/- The reference's Number, Mod, Make. -/
namespace Go.Proofs.Ytdbgddngapminaa
open Go.RowKit Go.Mv Mvp
attribute [local irreducible] limbs lw mix cw cSub cAdd cMul beN laid be32
end Go.Proofs.Ytdbgddngapminaa

/- Plain: the two primes. -/
namespace Mvp
/-- 2^256 less the primes -/
def cP : Nat := 4294968273
def cQ : Nat := 4624529908474429119 + 4994812053365940164 * B64 + B64 ^ 2
def pP : Nat := B64 ^ 4 - cP
def pQ : Nat := B64 ^ 4 - cQ
end Mvp

/- The reference's Make. -/
namespace Go.Proofs.Ytdbgddngapminaa
open Go.RowKit Go.Mv Mvp
attribute [local irreducible] limbs lw mix cSub cAdd cMul beN laid be32
theorem results_st {P : Program} {fn : Func} {p : Tmp} {ty : TypeId} (h : fn.results = #[.cell p ty]) {tmps : Array Value} {w : World} {g : Nat} {L : List Value} {T : TypeId}
    (hp : tmps.getD p undef = .pointer (some ⟨g, 0, none⟩)) (hg : Has w g L T) {d : TypeDesc} (hu : P.underlying ty = some d) (hd : (match d with | .struct _ | .array _ _ => true | _ => false) = true) (hi : (P.info? ty).map (·.size) = some L.length) :
    (results fn tmps).run P w = .ok (.agg L.toArray) w := by
  obtain ⟨lo, hi', hh, -⟩ := hg
  exact results_cell_row h tmps w g T L.toArray _ _ hp hh hu hd (by simpa using hi)
attribute [local irreducible] cw
end Go.Proofs.Ytdbgddngapminaa

/- Slice expressions as equations on their runs: to be laid ahead of a walk. -/
namespace Go.Mv
open Go.RowKit
variable {P : Program}

theorem cutAt_0 (p : Option Addr) (m : Nat) : cutAt p 0 m = p := by
  unfold cutAt
  split
  · rfl
  · cases p with
    | none => rfl
    | some a => simp [Addr.add]
theorem run_sliceA_lo (w : World) {ty : TypeId} {n : Nat} {e : TypeId} (hu : P.underlying ty = some (.array n e)) (hsz : (P.info? e).map (·.size) = some 1) (g p : Nat) (k : IntKind) (l : Nat) (h : l < n) :
    (Instr.sliceAt ty (.pointer (some ⟨g, p, none⟩)) (some (.int k (l : Int))) none none).run P w = .ok (.slice (some ⟨g, p + l, none⟩) (n - l) (n - l)) w := by
  obtain ⟨i, hi1, hi2⟩ : ∃ i, P.info? e = some i ∧ i.size = 1 := by simpa using hsz
  have hne : ¬ n = l := by omega
  have hle : l ≤ n := by omega
  simp [Instr.sliceAt, run_underlying hu, Instr.sliceBounds, run_sliceBound, hle, sizeOf, typeInfo, hi1, hi2, hne, addr_add, Instr.sureAddr]
theorem run_sliceA_hi (w : World) {ty : TypeId} {n : Nat} {e : TypeId} (hu : P.underlying ty = some (.array n e)) (hsz : (P.info? e).map (·.size) = some 1) (g p : Nat) (k : IntKind) (h : Nat) (hh : h ≤ n) :
    (Instr.sliceAt ty (.pointer (some ⟨g, p, none⟩)) none (some (.int k (h : Int))) none).run P w = .ok (.slice (some ⟨g, p, none⟩) h n) w := by
  obtain ⟨i, hi1, hi2⟩ : ∃ i, P.info? e = some i ∧ i.size = 1 := by simpa using hsz
  simp [Instr.sliceAt, run_underlying hu, Instr.sliceBounds, run_sliceBound, hh, sizeOf, typeInfo, hi1, Addr.add, Instr.sureAddr]
theorem run_sliceA_all (w : World) {ty : TypeId} {n : Nat} {e : TypeId} (hu : P.underlying ty = some (.array n e)) (hsz : (P.info? e).map (·.size) = some 1) (g p : Nat) :
    (Instr.sliceAt ty (.pointer (some ⟨g, p, none⟩)) none none none).run P w = .ok (.slice (some ⟨g, p, none⟩) n n) w := by
  obtain ⟨i, hi1, hi2⟩ : ∃ i, P.info? e = some i ∧ i.size = 1 := by simpa using hsz
  simp [Instr.sliceAt, run_underlying hu, Instr.sliceBounds, sizeOf, typeInfo, hi1, Addr.add, Instr.sureAddr]
theorem run_slice_hi (w : World) {ty e : TypeId} (hu : P.underlying ty = some (.slice e)) (hsz : (P.info? e).map (·.size) = some 1) (p : Option Addr) (n c : Nat) (k : IntKind) (h : Nat) (hh : h ≤ c) :
    (Instr.sliceAt ty (.slice p n c) none (some (.int k (h : Int))) none).run P w = .ok (.slice p h c) w := by
  obtain ⟨i, hi1, hi2⟩ : ∃ i, P.info? e = some i ∧ i.size = 1 := by simpa using hsz
  have := cutAt_0 p c
  simp [Instr.sliceAt, Instr.slice, run_underlying hu, Instr.sliceBounds, run_sliceBound, hh, sizeOf, typeInfo, hi1, Addr.add]
/-- min of two ints -/
theorem wl_min {w : World} {ops : Array Oper} {rest : List Oper} {o : Oper} {a : Act} {Q : Exit → Act → World → Prop} {x y : Operand} {ts : Array TypeId} (hgd : o.guard = none) (ho : o.op = .call { callee := .builtin .min, args := #[x, y], argTypes := ts })
    {k k' : IntKind} {xi yi : Int} (hx : a.eval x = .int k xi) (hy : a.eval y = .int k' yi) (r : Nat) (hr : (if yi < xi then yi else xi) = (r : Int)) (h : wpList P ops Q rest (a.put o.dst (.int k (r : Int))) w) : wpList P ops Q (o :: rest) a w := by
  refine wpList_plain hgd fun K hK => ?_
  have hrun : (Builtin.min_ ts o.type #[.int k xi, .int k' yi]).run P w = .ok (.int k (r : Int)) w := by rw [run_min_int2, hr]
  unfold Oper.wp execOp
  simp only [ho, resolve, invoke, builtin, Sem.run_bind, Sem.run_pure, Result.andThen_ok, List.map_toArray, List.map_cons, List.map_nil, hx, hy, hrun]
  exact hK _ _ h
end Go.Mv

/- A region that draws its order: the head under a condition S, one operation that may break S, and behind it operations that only yield values, under another condition. -/
namespace Go.Mv
open Go.RowKit
section
variable {P : Program} {ops : Array Oper} {md : Region.Mode} {Q : Exit → Act → World → Prop} {S S2 : World → Prop}

/-- each operation behind n waits for one that stands behind it no earlier than n -/
def behindB (md : Region.Mode) (ops : Array Oper) (n : Nat) : Bool :=
  (List.range ops.size).all fun t => decide (t ≤ n) || (List.range t).any fun j => decide (n ≤ j) && Region.waitsFor md ops t j

theorem head_first {n : Nat} {listed : Array Bool} (hs : Region.sinkB md ops n = true) (hb : behindB md ops n = true) (inv : HeadInv md ops n listed) {i : Nat} (hi : i < n) (hun : listed.getD i true = false) :
    ∀ t, n ≤ t → t ∉ Region.ready md ops listed := by
  have key : ∀ (d i : Nat), n - i = d → i < n → listed.getD i true = false → n ∉ Region.ready md ops listed := by
    intro d
    induction d using Nat.strongRecOn with
    | _ d ih =>
      intro i hd hi hun hr
      obtain ⟨-, on, hon, hall⟩ := mem_ready.1 hr
      obtain ⟨j, hj, hj2⟩ := List.any_eq_true.1 (List.all_eq_true.1 hs i (List.mem_range.2 hi))
      simp only [Bool.and_eq_true, decide_eq_true_eq] at hj2
      obtain ⟨oj, hoj, e, he, hbi, heon⟩ := Region.waitsFor_spec hj2.2
      have hjn := List.mem_range.1 hj
      rcases Nat.lt_or_ge j n with h | h
      · cases hl : listed.getD j false with
        | true =>
          have h2 := inv.closed j oj hoj hl e he hbi
          rw [heon, getD_both hun] at h2
          cases h2
        | false =>
          have hjs : j < listed.size := by
            have := (Array.getElem?_eq_some_iff.1 hoj).1
            rw [inv.size]; exact this
          exact ih (n - j) (by omega) j rfl h (getD_in hjs hl) hr
      · have : j = n := by omega
        subst this
        have : oj = on := Option.some.inj (hoj.symm.trans hon)
        subst this
        have h2 := hall e he hbi
        rw [heon, getD_both hun] at h2
        cases h2
  intro t ht hr
  rcases Nat.eq_or_lt_of_le ht with rfl | h
  · exact key _ i rfl hi hun hr
  · obtain ⟨-, ot, hot, hall⟩ := mem_ready.1 hr
    have htl := (Array.getElem?_eq_some_iff.1 hot).1
    have h1 := List.all_eq_true.1 hb t (List.mem_range.2 htl)
    simp only [Bool.or_eq_true, decide_eq_true_eq] at h1
    rcases h1 with h1 | h1
    · omega
    · obtain ⟨j, hj, hj2⟩ := List.any_eq_true.1 h1
      simp only [Bool.and_eq_true, decide_eq_true_eq] at hj2
      obtain ⟨o', ho', e, he, hbi, heon⟩ := Region.waitsFor_spec hj2.2
      have : o' = ot := Option.some.inj (ho'.symm.trans hot)
      subst this
      have h2 := hall e he hbi
      have hjt := List.mem_range.1 hj
      rw [heon, getD_both (inv.tail j hj2.1 (by omega))] at h2
      cases h2

/-- behind the head: B -/
def wpAnyU (P : Program) (md : Region.Mode) (ops : Array Oper) (Q : Exit → Act → World → Prop) (S : World → Prop) (n : Nat) (B : Array Bool → Act → World → Prop) : Nat → Array Bool → Act → World → Prop
  | 0, listed, a, w => Region.ready md ops listed = [n] ∧ B listed a w
  | f + 1, listed, a, w =>
    Region.ready md ops listed ≠ [] ∧ ∀ i ∈ Region.ready md ops listed, i < n ∧ wpOp P ops Q i (fun a' w' => S w' ∧ wpAnyU P md ops Q S n B f (listed.setIfInBounds i true) a' w') a w

theorem wpAny_of_U {n g : Nat} {B : Array Bool → Act → World → Prop} (hB : ∀ listed a w, Region.ready md ops listed = [n] → B listed a w → wpAny P md ops Q g listed a w) :
    ∀ (f : Nat) (listed : Array Bool) (a : Act) (w : World), wpAnyU P md ops Q S n B f listed a w → wpAny P md ops Q (f + g) listed a w
  | 0, listed, a, w, h => by rw [Nat.zero_add]; exact hB _ _ _ h.1 h.2
  | f + 1, listed, a, w, h => by
    rw [show f + 1 + g = (f + g) + 1 by omega]
    exact ⟨fun h0 => absurd h0 h.1, fun i hi => wpOp_mono (fun a' w' h' => wpAny_of_U hB f _ a' w' h'.2) (h.2 i hi).2⟩

theorem wpAnyU_first {n i : Nat} {oi : Oper} {v : Value} {B : Array Bool → Act → World → Prop} (hi : ops[i]? = some oi) (hsel : ∀ (j : Nat) (o : Oper) cs b, ops[j]? = some o → o.op ≠ .select cs b)
    (hQ : ∀ c a w, Q (.panic c) (a.put oi.dst v) w → Q (.panic c) a w) (hs : Region.sinkB md ops n = true) (hb : behindB md ops n = true) (hin : i < n) :
    ∀ (f : Nat) (listed : Array Bool) (a : Act) (w : World), HeadInv md ops n listed →
      (∀ j oj, ops[j]? = some oj → j ≠ i → listed.getD j true = false → (∀ e ∈ oj.after, Region.binds md e = true → e.on ≠ i) → oi.apart ops oj = true) →
      i ∈ Region.ready md ops listed → YieldsIf P ops S oi v a → S w →
      wpAnyU P md ops Q S n B f (listed.setIfInBounds i true) (a.put oi.dst v) w → wpAnyU P md ops Q S n B (f + 1) listed a w := by
  intro f
  induction f with
  | zero =>
    intro listed a w inv _ hr hy hS H
    have hun := (mem_ready.1 hr).1
    refine ⟨fun h => (by rw [h] at hr; cases hr), fun j hj => ?_⟩
    have hjn : j < n := Nat.lt_of_not_le fun h => head_first hs hb inv hin hun j h hj
    refine ⟨hjn, ?_⟩
    by_cases hji : j = i
    · subst hji; exact hy.wpOp hi hS ⟨hS, H⟩
    · have h2 := ready_mono hj hji
      rw [H.1] at h2
      simp only [List.mem_singleton] at h2
      omega
  | succ f ih =>
    intro listed a w inv hfree hr hy hS H
    have hun := (mem_ready.1 hr).1
    refine ⟨fun h => (by rw [h] at hr; cases hr), fun j hj => ?_⟩
    have hjn : j < n := Nat.lt_of_not_le fun h => head_first hs hb inv hin hun j h hj
    refine ⟨hjn, ?_⟩
    by_cases hji : j = i
    · subst hji; exact hy.wpOp hi hS ⟨hS, H⟩
    · have h1 := (H.2 j (ready_mono hj hji)).2
      obtain ⟨hjun, oj, hoj, hall⟩ := mem_ready.1 hj
      have hnot : ∀ e ∈ oj.after, Region.binds md e = true → e.on ≠ i := fun e he hb heq => by
        have h1 := hall e he hb
        rw [heq, getD_both hun] at h1
        cases h1
      have h2 := wpOp_putIf hoj (hfree j oj hoj hji hjun hnot) (fun cs b => hsel i oi cs b hi) (fun cs b => hsel j oj cs b hoj) hQ hy h1
      have hfree' : ∀ k ok, ops[k]? = some ok → k ≠ i → (listed.setIfInBounds j true).getD k true = false →
          (∀ e ∈ ok.after, Region.binds md e = true → e.on ≠ i) → oi.apart ops ok = true := fun k ok hk hki hun hno => by
        refine hfree k ok hk hki ?_ hno
        by_cases hjk : j = k
        · subst hjk; exact hjun
        · rw [getD_set_ne true hjk] at hun; exact hun
      refine wpOp_mono (fun a' w' h3 => ⟨h3.2.1, ih (listed.setIfInBounds j true) a' w' (inv.set hj hjn) hfree' (ready_mono hr (Ne.symm hji)) h3.1 h3.2.1 ?_⟩) h2
      rw [Array.setIfInBounds_comm _ _ hji]
      exact h3.2.2

/-- the head in the order s, then B -/
def wpSeqU (P : Program) (ops : Array Oper) (Q : Exit → Act → World → Prop) (S : World → Prop) (B : Act → World → Prop) : List (Nat × Bool) → Act → World → Prop
  | [], a, w => B a w
  | (i, true) :: r, a, w => ∃ o v, ops[i]? = some o ∧ YieldsIf P ops S o v a ∧ wpSeqU P ops Q S B r (a.put o.dst v) w
  | (i, false) :: r, a, w => ∃ o, ops[i]? = some o ∧ o.guard = none ∧ o.wp P a w (fun a' w' => S w' ∧ wpSeqU P ops Q S B r a' w') Q
/-- what follows the one operation: values only -/
def wpSeqB (P : Program) (ops : Array Oper) (Q : Exit → Act → World → Prop) (S : World → Prop) : List Nat → Act → World → Prop
  | [], a, w => Q .normal a w
  | i :: r, a, w => ∃ o v, ops[i]? = some o ∧ YieldsIf P ops S o v a ∧ wpSeqB P ops Q S r (a.put o.dst v) w
def seqOkB (md : Region.Mode) (ops : Array Oper) : List Nat → Array Bool → Bool
  | [], listed => (Region.ready md ops listed).isEmpty
  | i :: r, listed => (Region.ready md ops listed).contains i && Region.free md ops listed i && seqOkB md ops r (listed.setIfInBounds i true)
def seqOkU (md : Region.Mode) (ops : Array Oper) (n : Nat) (s2 : List Nat) : List (Nat × Bool) → Array Bool → Bool
  | [], listed => decide (Region.ready md ops listed = [n]) && seqOkB md ops s2 (listed.setIfInBounds n true)
  | (i, true) :: r, listed => decide (i < n) && (Region.ready md ops listed).contains i && Region.free md ops listed i && seqOkU md ops n s2 r (listed.setIfInBounds i true)
  | (i, false) :: r, listed => decide (i < n) && decide (Region.ready md ops listed = [i]) && seqOkU md ops n s2 r (listed.setIfInBounds i true)

theorem wpAnyH_of_seqB (hsel : Region.noSelect ops = true) (hQ : ∀ c (d : Option Tmp) v a w, Q (.panic c) (Act.put a d v) w → Q (.panic c) a w) :
    ∀ (r : List Nat) (listed : Array Bool) (a : Act) (w : World), seqOkB md ops r listed = true → S w → wpSeqB P ops Q S r a w → wpAnyH P md ops Q S r.length listed a w
  | [], listed, a, w, hB, _, h => wpAnyH_done (by simpa [seqOkB] using hB) h 0
  | i :: r, listed, a, w, hB, hS, h => by
    obtain ⟨o, v, ho, hy, hK⟩ := h
    simp only [seqOkB, Bool.and_eq_true] at hB
    obtain ⟨⟨hr, hf⟩, hB'⟩ := hB
    exact wpAnyH_take ho hsel hf hr (fun c a w => hQ c o.dst v a w) hy hS (wpAnyH_of_seqB hsel hQ r _ _ w hB' hS hK)

theorem wpAnyU_of_seq {n : Nat} {s2 : List Nat} {B : Act → World → Prop} (hsel : Region.noSelect ops = true) (hs : Region.sinkB md ops n = true) (hb : behindB md ops n = true)
    (hQ : ∀ c (d : Option Tmp) v a w, Q (.panic c) (Act.put a d v) w → Q (.panic c) a w) :
    ∀ (s : List (Nat × Bool)) (listed : Array Bool) (a : Act) (w : World), HeadInv md ops n listed → seqOkU md ops n s2 s listed = true → S w → wpSeqU P ops Q S B s a w →
      wpAnyU P md ops Q S n (fun l a w => seqOkB md ops s2 (l.setIfInBounds n true) = true ∧ B a w) s.length listed a w
  | [], listed, a, w, _, hB, _, h => by
    simp only [seqOkU, Bool.and_eq_true, decide_eq_true_eq] at hB
    exact ⟨hB.1, hB.2, h⟩
  | (i, true) :: r, listed, a, w, inv, hB, hS, h => by
    obtain ⟨o, v, ho, hy, hK⟩ := h
    simp only [seqOkU, Bool.and_eq_true, decide_eq_true_eq] at hB
    obtain ⟨⟨⟨hin, hr⟩, hf⟩, hB'⟩ := hB
    have hr' : i ∈ Region.ready md ops listed := by simpa using hr
    exact wpAnyU_first ho (Region.noSelect_spec hsel) (fun c a w => hQ c o.dst v a w) hs hb hin r.length listed a w inv (Region.free_spec ho hf) hr' hy hS
      (wpAnyU_of_seq hsel hs hb hQ r _ _ w (inv.set hr' hin) hB' hS hK)
  | (i, false) :: r, listed, a, w, inv, hB, hS, h => by
    obtain ⟨o, ho, hg, hK⟩ := h
    simp only [seqOkU, Bool.and_eq_true, decide_eq_true_eq] at hB
    obtain ⟨⟨hin, hr⟩, hB'⟩ := hB
    have hr' : i ∈ Region.ready md ops listed := by rw [hr]; simp
    refine ⟨by rw [hr]; simp, fun j hj => ?_⟩
    rw [hr] at hj
    have hj' : j = i := by simpa using hj
    subst hj'
    refine ⟨hin, ?_⟩
    unfold wpOp
    simp only [ho]
    rw [if_pos (by simp [Region.wanted, hg])]
    exact .inl (Oper.wp_mono (fun a' w' h' => ⟨h'.1, wpAnyU_of_seq hsel hs hb hQ r _ a' w' (inv.set hr' hin) hB' h'.1 h'.2⟩) hK)

def tailOkU (ops : Array Oper) (n : Nat) (s : List (Nat × Bool)) (s2 : List Nat) : Bool :=
  Region.noSelect ops && decide (n < ops.size) && decide (s.length = n) && decide (s2.length = ops.size - n - 1) && Region.sinkB .any ops n && behindB .any ops n && seqOkU .any ops n s2 s (Array.replicate ops.size false)

/-- THE BEGINNING -/
theorem wp_region_seq2 {id : Nat} {a : Act} {w : World} {l : List Oper} (S S2 : World → Prop) (n : Nat) (s : List (Nat × Bool)) (s2 : List Nat) (hm : P.follows .mixedOrders = true) (hB : tailOkU l.toArray n s s2 = true)
    (hS : S w.drew) (hQ : ∀ c (d : Option Tmp) v a w, Q (.panic c) (Act.put a d v) w → Q (.panic c) a w)
    (h : wpSeqU P l.toArray Q S (fun a w => ∃ o, l[n]? = some o ∧ o.guard = none ∧ o.wp P a w (fun a' w' => S2 w' ∧ wpSeqB P l.toArray Q S2 s2 a' w') Q) s a w.drew) : (Code.region id l.toArray true).wp P Q a w := by
  simp only [tailOkU, Bool.and_eq_true, decide_eq_true_eq] at hB
  obtain ⟨⟨⟨⟨⟨⟨hsel, hn⟩, hlen⟩, hlen2⟩, hs⟩, hb⟩, hseq⟩ := hB
  have inv0 : HeadInv .any l.toArray n (Array.replicate l.toArray.size false) :=
    ⟨by simp, fun j oj _ hl => (by rw [getD_replicate_false] at hl; cases hl), fun t _ ht => getD_in (by simpa using ht) (getD_replicate_false _ _)⟩
  have H := wpAnyU_of_seq (md := .any) hsel hs hb hQ s _ a w.drew inv0 hseq hS h
  refine wp_region_any hm ?_
  have := wpAny_of_U (g := s2.length + 1) (fun listed a w hr hBB => by
    obtain ⟨hok, o, ho, hg, hK⟩ := hBB
    refine ⟨fun h0 => (by rw [hr] at h0; cases h0), fun i hi => ?_⟩
    rw [hr] at hi
    have hi' : i = n := by simpa using hi
    subst hi'
    unfold wpOp
    have ho' : l.toArray[i]? = some o := by simpa using ho
    simp only [ho']
    rw [if_pos (by simp [Region.wanted, hg])]
    exact .inl (Oper.wp_mono (fun a' w' h' => wpAny_of_held _ _ _ _ (wpAnyH_of_seqB hsel hQ s2 _ a' w' hok h'.1 h'.2)) hK)) _ _ _ _ H
  rw [hlen, hlen2, show n + (l.toArray.size - n - 1 + 1) = l.toArray.size by omega] at this
  exact this

/- the steps -/
variable {l : List Oper} {i : Nat} {r : List (Nat × Bool)} {r2 : List Nat} {B : Act → World → Prop} {a : Act} {w : World} {o : Oper}
theorem sequ_pure (ho : l[i]? = some o) (hg : o.guard = none) {v : Value} (hv : ∀ wx, S wx → (execOp a.eval o).run P wx = .ok (.value v) wx) (h : wpSeqU P l.toArray Q S B r (a.put o.dst v) w) : wpSeqU P l.toArray Q S B ((i, true) :: r) a w :=
  ⟨o, v, by simpa using ho, .inl ⟨by simp [Region.wanted, hg], hv⟩, h⟩
theorem sequ_arr (ho : l[i]? = some o) (hg : o.guard = none) {ty : TypeId} {x : Operand} (hop : o.op = .load ty x) {g p : Nat} (hx : a.eval x = .pointer (some ⟨g, p, none⟩)) (cs : List Value) (hS : ∀ wx, S wx → wx.rangeAt g p cs)
    {d : TypeDesc} (hu : P.underlying ty = some d) (hd : d.isRow = true) (hi : (P.info? ty).map (·.size) = some cs.length) (h : wpSeqU P l.toArray Q S B r (a.put o.dst (.agg cs.toArray)) w) : wpSeqU P l.toArray Q S B ((i, true) :: r) a w :=
  ⟨o, _, by simpa using ho, yieldsIf_load_mid (by simp [Region.wanted, hg]) ty x hop g p hx cs d hS hu hd hi, h⟩
theorem sequ_one (ho : l[i]? = some o) (hg : o.guard = none) (h : o.wp P a w (fun a' w' => S2 w' ∧ wpSeqB P l.toArray Q S2 r2 a' w') Q) :
    wpSeqU P l.toArray Q S (fun a w => ∃ o, l[i]? = some o ∧ o.guard = none ∧ o.wp P a w (fun a' w' => S2 w' ∧ wpSeqB P l.toArray Q S2 r2 a' w') Q) [] a w := ⟨o, ho, hg, h⟩
theorem seqb_pure (ho : l[i]? = some o) (hg : o.guard = none) {v : Value} (hv : ∀ wx, S2 wx → (execOp a.eval o).run P wx = .ok (.value v) wx) (h : wpSeqB P l.toArray Q S2 r2 (a.put o.dst v) w) : wpSeqB P l.toArray Q S2 (i :: r2) a w :=
  ⟨o, v, by simpa using ho, .inl ⟨by simp [Region.wanted, hg], hv⟩, h⟩
theorem seqb_end (h : Q .normal a w) : wpSeqB P l.toArray Q S2 [] a w := h
end
end Go.Mv

/- mont: lineTop, Mul. -/
namespace Go.Proofs.Ytdbgddngapminaa
open Go.RowKit Go.Mv Mvp
attribute [local irreducible] limbs lw mix cw cSub cAdd cMul beN laid be32 montT mstep
set_option maxHeartbeats 4000000 in
set_option maxRecDepth 100000 in
theorem lineTop_any (gt V m n : Nat) (w : World) (ht : Has w gt (cw 6 V) 153) (hm : m < 18446744073709551616) (hn : n < B64 ^ 4) (hV : V + m * n < B64 ^ 6) (hVV : V < B64 ^ 6) :
    Calls Try.prog 117 #[.pointer (some ⟨gt, 0, none⟩), .int .u64 (m : Int), i4 n] w fun e w' => e = .returned (.tuple #[.int .u64 (lw (V + m * n) 4 : Nat), .int .u64 (lw (V + m * n) 5 : Nat)]) ∧ Has w' gt (cw 6 (mix (V + m * n) V 4)) 153 ∧ Fr (One gt) w w' := by
  have HM := Lib.hid hm
  have hlt := line_top V m n hn hV hVV
  have HS0 := Lib.hid hlt.1
  have HS1 := Lib.hid hlt.2.1
  have HS2 := Lib.hid hlt.2.2
  clear hlt hn hV hVV
  clear hm
  have st0 := St.one ht
  go_enter Try.func117, Try.ntmps117
  go_wp2_with (with_reducible refine wl_stop (o := ⟨some 5, _, _, _, _, _⟩) ?_)
  refine wl_boxS st0 rfl rfl rfl (cw 4 n) rfl ?_
  intro g5 w1 st1
  clear st0
  have c5 := (st1.at 0 rfl).cell (cw_get 6 V 5 (by decide))
  have c4 := (st1.at 0 rfl).cell (cw_get 6 V 4 (by decide))
  go_wp2_with fail
  refine wp_region_noPanic ?_
  refine wp_region_seq2 (fun wx => St (One gt) w wx [(gt, cw 6 V, 153), (g5, cw 4 n, 82)]) (fun wx => St (One gt) w wx [(gt, cw 6 (mix (V + m * n) V 4), 153), (g5, cw 4 n, 82)]) 7 [(0, true), (1, true), (2, true), (3, true), (4, true), (5, true), (6, true)] [8, 9, 10, 11, 12] (by kernel_rfl) (by kernel_rfl) st1.drew (fun _ _ _ _ _ h => h) ?_
  have hd1 := st1.drew
  refine sequ_pure (v := ?_) rfl rfl (fun wx hS => ?_) ?_
  rotate_left 1
  · (clear hS; go_simp; with_reducible rfl)
  try simp only [Act.put, List.setIfInBounds_toArray, List.set_cons_zero, List.set_cons_succ]
  refine sequ_pure (v := ?_) rfl rfl (fun wx hS => ?_) ?_
  rotate_left 1
  · (clear hS; go_simp; with_reducible rfl)
  try simp only [Act.put, List.setIfInBounds_toArray, List.set_cons_zero, List.set_cons_succ]
  refine sequ_arr rfl rfl rfl rfl (cw 4 n) (fun wx hS => St.rangeL hS 1 rfl 0 _ (by rw [List.drop_zero, List.take_of_length_le (Nat.le_refl _)])) Try.underlying82 rfl (by simp only [cw_len]; kernel_rfl) ?_
  try simp only [Act.put, List.setIfInBounds_toArray, List.set_cons_zero, List.set_cons_succ]
  refine sequ_pure (v := ?_) rfl rfl (fun wx hS => ?_) ?_
  rotate_left 1
  · (clear hS; go_simp; with_reducible rfl)
  try simp only [Act.put, List.setIfInBounds_toArray, List.set_cons_zero, List.set_cons_succ]
  refine sequ_pure (v := ?_) rfl rfl (fun wx hS => ?_) ?_
  rotate_left 1
  · (clear hS; go_simp; with_reducible rfl)
  try simp only [Act.put, List.setIfInBounds_toArray, List.set_cons_zero, List.set_cons_succ]
  refine sequ_pure (v := ?_) rfl rfl (fun wx hS => ?_) ?_
  rotate_left 1
  · (clear hS; go_simp; with_reducible rfl)
  try simp only [Act.put, List.setIfInBounds_toArray, List.set_cons_zero, List.set_cons_succ]
  refine sequ_pure (v := ?_) rfl rfl (fun wx hS => ?_) ?_
  rotate_left 1
  · (have hc := (St.at hS 0 rfl).cell (cw_get 6 V 4 (by decide)); clear hS; go_simp; with_reducible rfl)
  try simp only [Act.put, List.setIfInBounds_toArray, List.set_cons_zero, List.set_cons_succ]
  refine sequ_one rfl rfl ?_
  go_simp
  refine (line_any gt V m n (lw V 4) 153 _ (St.at hd1 0 rfl) HM.out (lw_lt V 4)).mono ?_
  rintro e' w2 ⟨rfl, hg2, hf2⟩
  have st2 : St (One gt) w w2 [(gt, cw 6 (mix (V + m * n) V 4), 153), (g5, cw 4 n, 82)] := hd1.put 0 rfl hf2 hg2
  clear hd1 hf2 hg2
  refine ⟨st2, ?_⟩
  try simp only [Act.put, List.setIfInBounds_toArray, List.set_cons_zero, List.set_cons_succ]
  refine seqb_pure (v := ?_) rfl rfl (fun wx hS => ?_) ?_
  rotate_left 1
  · (clear hS; go_simp; with_reducible rfl)
  try simp only [Act.put, List.setIfInBounds_toArray, List.set_cons_zero, List.set_cons_succ]
  refine seqb_pure (v := ?_) rfl rfl (fun wx hS => ?_) ?_
  rotate_left 1
  · (clear hS; go_simp; with_reducible rfl)
  try simp only [Act.put, List.setIfInBounds_toArray, List.set_cons_zero, List.set_cons_succ]
  refine seqb_pure (v := ?_) rfl rfl (fun wx hS => ?_) ?_
  rotate_left 1
  · (clear hS; go_simp; with_reducible rfl)
  try simp only [Act.put, List.setIfInBounds_toArray, List.set_cons_zero, List.set_cons_succ]
  refine seqb_pure (v := ?_) rfl rfl (fun wx hS => ?_) ?_
  rotate_left 1
  · (clear hS; go_simp; with_reducible rfl)
  try simp only [Act.put, List.setIfInBounds_toArray, List.set_cons_zero, List.set_cons_succ]
  refine seqb_pure (v := ?_) rfl rfl (fun wx hS => ?_) ?_
  rotate_left 1
  · (clear hS; go_simp; with_reducible rfl)
  try simp only [Act.put, List.setIfInBounds_toArray, List.set_cons_zero, List.set_cons_succ]
  refine seqb_end ?_
  refine NoPanic.normal ?_
  have hg := st2.at 0 rfl
  have hfr := st2.fr
  clear st2
  have hs := HS2.out
  go_wp2_with fail
  go_ret2
  rw [← HS0.out, ← HS1.out]
  exact ⟨rfl, hg, hfr⟩
end Go.Proofs.Ytdbgddngapminaa

/- A modulus of mont's: its numbers, its block. -/
namespace Mvp
structure Md where
  M : Nat
  neg : Nat
  Ri : Nat
structure Md.Ok (m : Md) : Prop where
  one : 1 < m.M
  lt : m.M < B64 ^ 4
  negLt : m.neg < 18446744073709551616
  neg : (m.M * m.neg + 1) % 18446744073709551616 = 0
  inv : B64 ^ 4 * m.Ri % m.M = 1
def mP : Md := ⟨pP, 15580212934572586289, 91248989341183975618893650062416139444822672217621753343178995607984094583082⟩
def mQ : Md := ⟨pQ, 5408259542528602431, 98562742561918706241446412617699626731164144128788972284189895985653995782166⟩
theorem mP_ok : mP.Ok := ⟨by decide, by decide, by decide, by decide, by decide⟩
theorem mQ_ok : mQ.Ok := ⟨by decide, by decide, by decide, by decide, by decide⟩
theorem mont_bounds (T b M x V mm : Nat) (hb : b < M) (hM : M < B64 ^ 4) (hT : T < b + M) (hx : x < 18446744073709551616) (hV : T + x * b = V) (hm : mm < 18446744073709551616) :
    T < B64 ^ 5 ∧ T + x * b < B64 ^ 6 ∧ V < B64 ^ 6 ∧ V + mm * M < B64 ^ 6 := by
  have h1 : x * b ≤ 18446744073709551615 * b := Nat.mul_le_mul_right _ (by omega)
  have h2 : mm * M ≤ 18446744073709551615 * M := Nat.mul_le_mul_right _ (by omega)
  have e4 : B64 ^ 5 = 18446744073709551616 * B64 ^ 4 := by rw [Nat.pow_succ, Nat.mul_comm]
  have e5 : B64 ^ 6 = 18446744073709551616 * B64 ^ 5 := by rw [Nat.pow_succ, Nat.mul_comm]
  generalize B64 ^ 6 = R6 at *
  generalize B64 ^ 5 = R5 at *
  generalize B64 ^ 4 = R4 at *
  omega
theorem lw4_one (T : Nat) (h2 : T < 2 * B64 ^ 4) (h : ¬ T < B64 ^ 4) : lw T 4 = 1 := by
  have h0 := b64_pos 4
  have hd : T / B64 ^ 4 = 1 := by
    generalize B64 ^ 4 = R at *
    have h1 : T - R < R := by omega
    rw [show T = (T - R) + R by omega, Nat.add_div_right _ h0, Nat.div_eq_of_lt h1]
  unfold lw
  rw [hd]; rfl
theorem mont_final (T M : Nat) (hM : M < B64 ^ 4) (hT : T < 2 * M) :
    (T < M → lw T 4 = 0 ∧ cSub T M 4 = 1 ∧ Go.Mv.cw 4 (T % M) = Go.Mv.cw 4 T) ∧
    (¬ T < M → Go.Mv.cw 4 (T % M) = Go.Mv.cw 4 (T + B64 ^ 4 - M) ∧ (T < B64 ^ 4 → lw T 4 = 0 ∧ cSub T M 4 = 0)) := by
  constructor
  · intro h
    exact ⟨lw_top T 4 4 (Nat.lt_trans h hM) (Nat.le_refl _), by rw [cSub_all _ _ _ (Nat.lt_trans h hM) hM, if_pos h], by rw [Nat.mod_eq_of_lt h]⟩
  · intro h
    refine ⟨?_, fun h4 => ⟨lw_top T 4 4 h4 (Nat.le_refl _), by rw [cSub_all _ _ _ h4 hM, if_neg h]⟩⟩
    rw [mod_of_lt2 T M hT, if_neg h, ← Go.Mv.cw_mod 4 (T + B64 ^ 4 - M), show T + B64 ^ 4 - M = (T - M) + B64 ^ 4 by omega, Nat.add_mod_right, Go.Mv.cw_mod]
theorem montT_zero (M neg b a : Nat) : montT M neg b a 0 = 0 := rfl
theorem montT_succ (M neg b a k : Nat) : montT M neg b a (k + 1) = (montT M neg b a k + lw a k * b + ((montT M neg b a k + lw a k * b) % 18446744073709551616 * neg % 18446744073709551616) * M) / 18446744073709551616 := rfl
end Mvp
namespace Go.Mv
open Go.RowKit Mvp
def mdL (m : Md) : List Value := cw 4 m.M ++ ([.int .u64 (m.neg : Int)] ++ (cw 4 (B64 ^ 4 % m.M) ++ cw 4 (B64 ^ 4 * B64 ^ 4 % m.M)))
theorem md_M (m : Md) : ((mdL m).drop 0).take (cw 4 m.M).length = cw 4 m.M := by simp [mdL]
theorem md_one (m : Md) : ((mdL m).drop 5).take (cw 4 (B64 ^ 4 % m.M)).length = cw 4 (B64 ^ 4 % m.M) := by
  have h : (cw 4 m.M ++ [Value.int .u64 (m.neg : Int)]).length = 5 := by rw [List.length_append, cw_len]; rfl
  rw [mdL, ← List.append_assoc, List.drop_append_of_le_length (by omega), List.drop_of_length_le (by omega), List.nil_append]
  simp
theorem md_sq (m : Md) : ((mdL m).drop 9).take (cw 4 (B64 ^ 4 * B64 ^ 4 % m.M)).length = cw 4 (B64 ^ 4 * B64 ^ 4 % m.M) := by
  have h : (cw 4 m.M ++ ([Value.int .u64 (m.neg : Int)] ++ cw 4 (B64 ^ 4 % m.M))).length = 9 := by rw [List.length_append, List.length_append, cw_len, cw_len]; rfl
  have e : mdL m = (cw 4 m.M ++ ([Value.int .u64 (m.neg : Int)] ++ cw 4 (B64 ^ 4 % m.M))) ++ cw 4 (B64 ^ 4 * B64 ^ 4 % m.M) := by simp [mdL]
  rw [e, List.drop_append_of_le_length (by omega), List.drop_of_length_le (by omega), List.nil_append, List.take_of_length_le (Nat.le_refl _)]
theorem md_neg (m : Md) : (mdL m)[4]? = some (.int .u64 (m.neg : Int)) := by
  rw [mdL, List.getElem?_append_right (by rw [cw_len]; exact Nat.le_refl _), cw_len]; rfl
theorem shift6 (V : Nat) (h : V < B64 ^ 6) : (splice (cw 6 V) 0 (((cw 6 V).drop 1).take 5)).set 5 (.int .u64 0) = cw 6 (V / 18446744073709551616) := by
  have e : V / 18446744073709551616 = V / B64 ^ 1 := by rw [Nat.pow_one]
  have h6 : lw V 6 = 0 := lw_top V 6 6 h (Nat.le_refl _)
  have hw := fun i => lw_div V 1 i
  rw [e]
  show _ = [Value.int .u64 (lw (V / B64 ^ 1) 0 : Nat), Value.int .u64 (lw (V / B64 ^ 1) 1 : Nat), Value.int .u64 (lw (V / B64 ^ 1) 2 : Nat), Value.int .u64 (lw (V / B64 ^ 1) 3 : Nat), Value.int .u64 (lw (V / B64 ^ 1) 4 : Nat), Value.int .u64 (lw (V / B64 ^ 1) 5 : Nat)]
  rw [hw 0, hw 1, hw 2, hw 3, hw 4, hw 5, show 1 + 5 = 6 from rfl, h6]
  rfl
theorem cw6_low (V : Nat) : ((cw 6 V).drop 0).take (cw 4 V).length = cw 4 V := rfl
end Go.Mv
