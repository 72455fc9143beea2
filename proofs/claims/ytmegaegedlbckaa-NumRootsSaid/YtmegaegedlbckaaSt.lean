/- What a call knows of the blocks that are its own: one fact for all of them. -/
import Derived.Test.YtmegaegedlbckaaBox2
namespace Go.Mv
open Go.RowKit
variable {P : Program}

/-- the blocks of bl hold what is told; each is new since w0, or may be written (S); no other block that was there at w0 has turned, but those of S -/
structure St (S : Nat → Prop) (w0 w : World) (bl : List (Nat × List Value × TypeId)) : Prop where
  fr : Fr S w0 w
  own : ∀ x ∈ bl, w0.heap.size ≤ x.1 ∨ S x.1
  has : ∀ x ∈ bl, Has w x.1 x.2.1 x.2.2
  ne : bl.Pairwise fun x y => x.1 ≠ y.1

theorem St.start (S : Nat → Prop) (w : World) : St S w w [] := ⟨Fr.refl _ _, by simp, by simp, List.Pairwise.nil⟩
theorem St.at {S : Nat → Prop} {w0 w : World} {bl : List (Nat × List Value × TypeId)} (h : St S w0 w bl) (i : Nat) {g : Nat} {L : List Value} {T : TypeId} (hi : bl[i]? = some (g, L, T)) : Has w g L T :=
  h.has _ (List.mem_of_getElem? hi)
theorem St.neAt {S : Nat → Prop} {w0 w : World} {bl : List (Nat × List Value × TypeId)} (h : St S w0 w bl) {i j : Nat} {x y : Nat × List Value × TypeId} (hi : bl[i]? = some x) (hj : bl[j]? = some y) (hij : i ≠ j) : x.1 ≠ y.1 := by
  obtain ⟨hi1, rfl⟩ := List.getElem?_eq_some_iff.1 hi
  obtain ⟨hj1, rfl⟩ := List.getElem?_eq_some_iff.1 hj
  rcases Nat.lt_or_ge i j with k | k
  · exact List.pairwise_iff_getElem.1 h.ne i j hi1 hj1 k
  · exact (List.pairwise_iff_getElem.1 h.ne j i hj1 hi1 (by omega)).symm
theorem St.keep {S : Nat → Prop} {w0 w w' : World} {bl : List (Nat × List Value × TypeId)} (h : St S w0 w bl) (hf : Fr Nob w w') : St S w0 w' bl :=
  ⟨h.fr.same hf, h.own, fun x hx => (h.has x hx).keep hf id, h.ne⟩
theorem St.drew {S : Nat → Prop} {w0 w : World} {bl : List (Nat × List Value × TypeId)} (h : St S w0 w bl) : St S w0 w.drew bl := ⟨h.fr.drew, h.own, h.has, h.ne⟩
theorem St.drewN {S : Nat → Prop} {w0 w : World} {bl : List (Nat × List Value × TypeId)} (h : St S w0 w bl) (n : Nat) : St S w0 (w.drewN n) bl := ⟨h.fr.drewN n, h.own, h.has, h.ne⟩
theorem St.less {S : Nat → Prop} {w0 w : World} {bl bl' : List (Nat × List Value × TypeId)} (h : St S w0 w bl) (hs : bl'.Sublist bl) : St S w0 w bl' :=
  ⟨h.fr, fun x hx => h.own x (hs.subset hx), fun x hx => h.has x (hs.subset hx), h.ne.sublist hs⟩
theorem St.new {S : Nat → Prop} {w0 w w' : World} {bl : List (Nat × List Value × TypeId)} (h : St S w0 w bl) (hf : Fr Nob w w') {g : Nat} {L : List Value} {T : TypeId} (hg : Has w' g L T) (hn : w.heap.size ≤ g) : St S w0 w' (bl ++ [(g, L, T)]) := by
  refine ⟨h.fr.same hf, ?_, ?_, ?_⟩
  · intro x hx
    rcases List.mem_append.1 hx with hx | hx
    · exact h.own x hx
    · simp only [List.mem_singleton] at hx
      subst hx
      exact .inl (Nat.le_trans h.fr.size hn)
  · intro x hx
    rcases List.mem_append.1 hx with hx | hx
    · exact (h.has x hx).keep hf id
    · simp only [List.mem_singleton] at hx
      subst hx
      exact hg
  · rw [List.pairwise_append]
    refine ⟨h.ne, List.pairwise_singleton _ _, ?_⟩
    intro x hx y hy
    simp only [List.mem_singleton] at hy
    subst hy
    have := (h.has x hx).lt
    show x.1 ≠ g
    omega
theorem St.put {S : Nat → Prop} {w0 w w' : World} {bl : List (Nat × List Value × TypeId)} (h : St S w0 w bl) (i : Nat) {g : Nat} {L L' : List Value} {T : TypeId} (hi : bl[i]? = some (g, L, T)) (hf : Fr (One g) w w') (hg : Has w' g L' T) : St S w0 w' (bl.set i (g, L', T)) := by
  obtain ⟨hi1, hi2⟩ := List.getElem?_eq_some_iff.1 hi
  refine ⟨?_, ?_, ?_, ?_⟩
  · refine h.fr.trans hf fun j hj hjg => ?_
    have hjg' : j = g := hjg
    subst hjg'
    rcases h.own _ (List.mem_of_getElem? hi) with k | k
    · have k' : w0.heap.size ≤ j := k
      omega
    · exact k
  · intro x hx
    rcases List.mem_or_eq_of_mem_set hx with hx | rfl
    · exact h.own x hx
    · exact h.own (g, L, T) (List.mem_of_getElem? hi)
  · intro x hx
    obtain ⟨j, hj1, hj2⟩ := List.mem_iff_getElem.1 hx
    rw [List.length_set] at hj1
    rw [List.getElem_set] at hj2
    by_cases e : i = j
    · rw [if_pos e] at hj2; subst hj2; exact hg
    · rw [if_neg e] at hj2
      subst hj2
      refine (h.has _ (List.getElem_mem hj1)).keep hf fun t => ?_
      exact h.neAt hi (List.getElem?_eq_getElem hj1) e (Eq.symm t)
  · rw [List.pairwise_iff_getElem]
    intro j k hj hk hjk
    have e := List.pairwise_iff_getElem.1 h.ne j k (by simpa using hj) (by simpa using hk) hjk
    rw [List.getElem_set, List.getElem_set]
    split
    · rename_i e1; subst e1
      rw [hi2] at e
      split
      · omega
      · exact e
    · split
      · rename_i e2; subst e2; rw [hi2] at e; exact e
      · exact e
/-- one cell of a block is written -/
theorem St.set {S : Nat → Prop} {w0 w : World} {bl : List (Nat × List Value × TypeId)} (h : St S w0 w bl) (i : Nat) {g : Nat} {L : List Value} {T : TypeId} (hi : bl[i]? = some (g, L, T)) (k : Nat) (v : Value) : St S w0 (w.setCell ⟨g, k, none⟩ v) (bl.set i (g, L.set k v, T)) :=
  h.put i hi ((Fr.refl (One g) w).setCell g k none v (fun _ => rfl)) ((h.at i hi).set k v)
/-- a block that came in is taken in -/
theorem St.take {S : Nat → Prop} {w0 w : World} {bl : List (Nat × List Value × TypeId)} (h : St S w0 w bl) {g : Nat} {L : List Value} {T : TypeId} (hg : Has w g L T) (hS : S g) (hn : ∀ x ∈ bl, x.1 ≠ g) : St S w0 w (bl ++ [(g, L, T)]) := by
  refine ⟨h.fr, ?_, ?_, ?_⟩
  · intro x hx
    rcases List.mem_append.1 hx with hx | hx
    · exact h.own x hx
    · simp only [List.mem_singleton] at hx; subst hx; exact .inr hS
  · intro x hx
    rcases List.mem_append.1 hx with hx | hx
    · exact h.has x hx
    · simp only [List.mem_singleton] at hx; subst hx; exact hg
  · rw [List.pairwise_append]
    refine ⟨h.ne, List.pairwise_singleton _ _, ?_⟩
    intro x hx y hy
    simp only [List.mem_singleton] at hy
    subst hy
    exact hn x hx
theorem St.one {w : World} {g : Nat} {L : List Value} {T : TypeId} (hg : Has w g L T) : St (One g) w w [(g, L, T)] := (St.start (One g) w).take hg rfl (by simp)

section
variable {w w0 : World} {ops : Array Oper} {rest : List Oper} {o : Oper} {a : Act} {Q : Exit → Act → World → Prop} {S : Nat → Prop} {bl : List (Nat × List Value × TypeId)}
theorem wl_boxS (hst : St S w0 w bl) {e : TypeId} {x : Operand} (hgd : o.guard = none) (ho : o.op = .box e x) {v : Value} (hx : a.eval x = v) (L : List Value) (hL : v.cells.toList = L)
    (h : ∀ g w', St S w0 w' (bl ++ [(g, L, e)]) → wpList P ops Q rest (a.put o.dst (.pointer (some ⟨g, 0, none⟩))) w') : wpList P ops Q (o :: rest) a w :=
  wl_box hgd ho hx L hL fun w' hg hf _ => h _ w' (hst.new hf hg (Nat.le_refl _))
theorem wl_allocS (hst : St S w0 w bl) {e : TypeId} (hgd : o.guard = none) (ho : o.op = .alloc e) {z : Value} (hi : (P.info? e).map (·.zero) = some (some z)) (L : List Value) (hL : z.cells.toList = L)
    (h : ∀ g w', St S w0 w' (bl ++ [(g, L, e)]) → wpList P ops Q rest (a.put o.dst (.pointer (some ⟨g, 0, none⟩))) w') : wpList P ops Q (o :: rest) a w :=
  wl_alloc hgd ho hi L hL fun w' hg hf _ => h _ w' (hst.new hf hg (Nat.le_refl _))
/-- a whole array is read -/
theorem wl_loadS (hst : St S w0 w bl) (i : Nat) {g : Nat} {L : List Value} {T : TypeId} (hb : bl[i]? = some (g, L, T)) {ty : TypeId} {x : Operand} (hgd : o.guard = none) (ho : o.op = .load ty x) {n : Nat} {e : TypeId} (hu : P.underlying ty = some (.array n e)) (hx : a.eval x = .pointer (some ⟨g, 0, none⟩))
    (hi : (P.info? ty).map (·.size) = some L.length) (h : wpList P ops Q rest (a.put o.dst (.agg L.toArray)) w) : wpList P ops Q (o :: rest) a w :=
  wl_loadA hgd ho hu hx (hst.at i hb) L (by rw [List.drop_zero, List.take_of_length_le (Nat.le_refl _)]) hi h
/-- a whole struct (or array) is read -/
theorem wl_loadSt (hst : St S w0 w bl) (i : Nat) {g : Nat} {L : List Value} {T : TypeId} (hb : bl[i]? = some (g, L, T)) {ty : TypeId} {x : Operand} (hgd : o.guard = none) (ho : o.op = .load ty x) {d : TypeDesc} (hu : P.underlying ty = some d) (hd : d.isRow = true) (hx : a.eval x = .pointer (some ⟨g, 0, none⟩))
    (hi : (P.info? ty).map (·.size) = some L.length) (h : wpList P ops Q rest (a.put o.dst (.agg L.toArray)) w) : wpList P ops Q (o :: rest) a w :=
  wpList_load_mid hgd ty x ho g 0 hx L _ ((hst.at i hb).range 0 L (by rw [List.drop_zero, List.take_of_length_le (Nat.le_refl _)])) hu hd hi h
/-- a whole array is stored -/
theorem wl_storeS (hst : St S w0 w bl) (i : Nat) {g : Nat} {L : List Value} {T : TypeId} (hb : bl[i]? = some (g, L, T)) {ty : TypeId} {x y : Operand} (hgd : o.guard = none) (ho : o.op = .store ty x y) (hx : a.eval x = .pointer (some ⟨g, 0, none⟩)) {cs : List Value} (hy : a.eval y = .agg cs.toArray)
    (hn : cs.length = L.length) (hi : (P.info? ty).map (·.size) = some cs.length) (h1 : ∀ v ∈ cs, v.oneCell' = true)
    (h : ∀ w', St S w0 w' (bl.set i (g, cs, T)) → wpList P ops Q rest (a.put o.dst undef) w') : wpList P ops Q (o :: rest) a w :=
  wl_storeA hgd ho hx hy (hst.at i hb) (by omega) hi h1 fun w' hg hf _ => h w' (hst.put i hb hf (by rwa [splice_whole _ _ hn] at hg))
end
end Go.Mv
