/- SpongeLogs: what stays of many logs, step by step. -/
import Derived.Test.YtgkakddldobpkaaLog
import Derived.Test.YtgkakddldobpkaaOpen
namespace Go.Mv
open Go.RowKit
theorem Has.ne {w : World} {g g' : Nat} {L L' : List Value} {T T' : TypeId} (h : Has w g L T) (h' : Has w g' L' T') (hT : T ≠ T') : g ≠ g' := by
  rintro rfl
  obtain ⟨_, _, h1, _⟩ := h
  obtain ⟨_, _, h2, _⟩ := h'
  rw [h1] at h2
  simp at h2
  exact hT h2.2.1
theorem Own.ne2 {w : World} {base base' sz sz' n n' : Nat} {T T' : TypeId} {v v' : Value} {L L' : List Value} (h : Own w base T sz v n L) (h' : Own w base' T' sz' v' n' L') (hT : T ≠ T') (k : Nat) (hk : OwnB v k) : ¬ OwnB v' k := by
  obtain ⟨_, ⟨rfl, _⟩ | ⟨g, o, cap, B, rfl, _, hg, _⟩⟩ := h'
  · intro t; cases t
  · intro t
    have e : g = k := by simpa [OwnB, Value.ownBlock] using t
    subst e
    exact h.ne hg hT hk
end Go.Mv
namespace Go.Proofs.Ytgkakddldobpkaa
open Go.RowKit Go.Mv Mvp
attribute [local irreducible] permS permP toB turnsK squeeze permN permB spongeB feed frameL framesL tagL

theorem LogAt.at' {w : World} {base g : Nat} {l : List UInt8} (h : LogAt w base g l) : ∃ v, Has w g [v] 100 := ⟨h.choose, h.choose_spec.1⟩
theorem LogAt.own {w w' : World} {base g : Nat} {l : List UInt8} {S : Nat → Prop} (h : LogAt w base g l) (hf : Fr S w w') (hg : ¬ S g) (hs : ∀ v, Own w base 5 1 v 32 (bs l) → ∀ k, OwnB v k → ¬ S k) : LogAt w' base g l := by
  obtain ⟨v, h1, h2⟩ := h
  exact ⟨v, h1.keep hf hg, h2.keep hf (hs v h2)⟩

abbrev Tri : Type := Nat × Nat × List UInt8
def kptr (T : List Tri) : List Value := T.map fun t => .pointer (some ⟨t.1, 0, none⟩)
def wptr (T : List Tri) : List Value := T.map fun t => .pointer (some ⟨t.2.1, 0, none⟩)

structure LI (w : World) (base ga gb : Nat) (sa sb : List UInt8) (T : List Tri) (vk : Value) (Lk : List Value) (vw : Value) (Lw : List Value) : Prop where
  la : sa.length = 32
  lb : sb.length = 32
  a : LogAt w base ga sa
  b : RLogAt w gb sb
  each : ∀ t ∈ T, LogAt w base t.1 t.2.2 ∧ RLogAt w t.2.1 t.2.2 ∧ t.2.2.length = 32
  na : (ga :: T.map (·.1)).Nodup
  nb : (gb :: T.map (·.2.1)).Nodup
  k : Own w base 40 1 vk Lk.length Lk
  w : Own w base 42 1 vw Lw.length Lw
  bs : base ≤ ga ∧ base ≤ gb ∧ ∀ t ∈ T, base ≤ t.1 ∧ base ≤ t.2.1

variable {w w' : World} {base ga gb : Nat} {sa sb : List UInt8} {T : List Tri} {vk vw : Value} {Lk Lw : List Value}
theorem LI.still (h : LI w base ga gb sa sb T vk Lk vw Lw) (hf : Fr Nob w w') : LI w' base ga gb sa sb T vk Lk vw Lw :=
  ⟨h.la, h.lb, h.a.still hf, Has.keep h.b hf id, fun t ht => ⟨(h.each t ht).1.still hf, Has.keep (h.each t ht).2.1 hf id, (h.each t ht).2.2⟩, h.na, h.nb, h.k.still hf, h.w.still hf, h.bs⟩
theorem LI.stepA (h : LI w base ga gb sa sb T vk Lk vw Lw) (hf : Fr (One ga) w w') {sa' : List UInt8} (ha : LogAt w' base ga sa') (hl : sa'.length = 32) : LI w' base ga gb sa' sb T vk Lk vw Lw := by
  obtain ⟨v, hv⟩ := h.a.at'
  refine ⟨hl, h.lb, ha, Has.keep h.b hf (Has.ne h.b hv (by decide)), fun t ht => ⟨(h.each t ht).1.other hf ?_ hv (by decide), Has.keep (h.each t ht).2.1 hf (Has.ne (h.each t ht).2.1 hv (by decide)), (h.each t ht).2.2⟩, h.na, h.nb,
    h.k.keep hf (fun k hk (e : k = ga) => h.k.ne hv (by decide) (e ▸ hk)), h.w.keep hf (fun k hk (e : k = ga) => h.w.ne hv (by decide) (e ▸ hk)), h.bs⟩
  have hn := (List.nodup_cons.1 h.na).1
  intro e
  exact hn (e ▸ List.mem_map.2 ⟨t, ht, rfl⟩)
theorem LI.stepB (h : LI w base ga gb sa sb T vk Lk vw Lw) (hf : Fr (One gb) w w') {sb' : List UInt8} (hb : RLogAt w' gb sb') (hl : sb'.length = 32) : LI w' base ga gb sa sb' T vk Lk vw Lw := by
  have hv := h.b
  obtain ⟨v, hav⟩ := h.a.at'
  refine ⟨h.la, hl, h.a.other hf (Has.ne hav hv (by decide)) hv (by decide), hb, fun t ht => ⟨(h.each t ht).1.other hf (Has.ne (h.each t ht).1.at'.choose_spec hv (by decide)) hv (by decide), Has.keep (h.each t ht).2.1 hf ?_, (h.each t ht).2.2⟩, h.na, h.nb,
    h.k.keep hf (fun k hk (e : k = gb) => h.k.ne hv (by decide) (e ▸ hk)), h.w.keep hf (fun k hk (e : k = gb) => h.w.ne hv (by decide) (e ▸ hk)), h.bs⟩
  have hn := (List.nodup_cons.1 h.nb).1
  intro (e : t.2.1 = gb)
  exact hn (e ▸ List.mem_map.2 ⟨t, ht, rfl⟩)
theorem LI.appK (h : LI w base ga gb sa sb T vk Lk vw Lw) {vk' : Value} {Lk' : List Value} (hf : Fr (OwnB vk) w w') (hk : Own w' base 40 1 vk' Lk'.length Lk') : LI w' base ga gb sa sb T vk' Lk' vw Lw := by
  have hlog : ∀ g l, LogAt w base g l → LogAt w' base g l := fun g l hl => by
    obtain ⟨v, hv⟩ := hl.at'
    exact hl.own hf (h.k.ne hv (by decide)) (fun v ho k hk hk' => ho.ne2 h.k (by decide) k hk hk')
  exact ⟨h.la, h.lb, hlog _ _ h.a, Has.keep h.b hf (h.k.ne h.b (by decide)), fun t ht => ⟨hlog _ _ (h.each t ht).1, Has.keep (h.each t ht).2.1 hf (h.k.ne (h.each t ht).2.1 (by decide)), (h.each t ht).2.2⟩, h.na, h.nb, hk,
    h.w.keep hf (fun k hk hk' => h.w.ne2 h.k (by decide) k hk hk'), h.bs⟩
theorem LI.appW (h : LI w base ga gb sa sb T vk Lk vw Lw) {vw' : Value} {Lw' : List Value} (hf : Fr (OwnB vw) w w') (hw : Own w' base 42 1 vw' Lw'.length Lw') : LI w' base ga gb sa sb T vk Lk vw' Lw' := by
  have hlog : ∀ g l, LogAt w base g l → LogAt w' base g l := fun g l hl => by
    obtain ⟨v, hv⟩ := hl.at'
    exact hl.own hf (h.w.ne hv (by decide)) (fun v ho k hk hk' => ho.ne2 h.w (by decide) k hk hk')
  exact ⟨h.la, h.lb, hlog _ _ h.a, Has.keep h.b hf (h.w.ne h.b (by decide)), fun t ht => ⟨hlog _ _ (h.each t ht).1, Has.keep (h.each t ht).2.1 hf (h.w.ne (h.each t ht).2.1 (by decide)), (h.each t ht).2.2⟩, h.na, h.nb,
    h.k.keep hf (fun k hk hk' => h.k.ne2 h.w (by decide) k hk hk'), hw, h.bs⟩
theorem LogAt.ltS {w : World} {base g : Nat} {l : List UInt8} (h : LogAt w base g l) : g < w.heap.size := h.lt
/-- a clone goes on; the old log is kept, and another one of the reference's beside it -/
theorem LI.cloned (h : LI w base ga gb sa sa T vk Lk vw Lw) {gc gr : Nat} (hc : LogAt w base gc sa) (hr : RLogAt w gr sa) (hc1 : gc ≠ ga) (hc2 : ∀ t ∈ T, t.1 ≠ gc) (hr1 : gr ≠ gb) (hr2 : ∀ t ∈ T, t.2.1 ≠ gr) (hb1 : base ≤ gc) (hb2 : base ≤ gr) :
    LI w base gc gb sa sa (T ++ [(ga, gr, sa)]) vk Lk vw Lw := by
  have h1 := List.nodup_cons.1 h.na
  have h2 := List.nodup_cons.1 h.nb
  refine ⟨h.la, h.lb, hc, h.b, ?_, ?_, ?_, h.k, h.w, hb1, h.bs.2.1, ?_⟩
  · intro t ht
    rcases List.mem_append.1 ht with ht | ht
    · exact h.each t ht
    · simp only [List.mem_singleton] at ht
      subst ht
      exact ⟨h.a, hr, h.la⟩
  · rw [List.map_append, List.nodup_cons]
    refine ⟨?_, ?_⟩
    · intro hm
      rcases List.mem_append.1 hm with hm | hm
      · obtain ⟨t, ht, e⟩ := List.mem_map.1 hm
        exact hc2 t ht e
      · simp only [List.map_cons, List.map_nil, List.mem_singleton] at hm
        exact hc1 hm
    · rw [List.nodup_append]
      refine ⟨h1.2, by simp, ?_⟩
      intro x hx y hy e
      simp only [List.map_cons, List.map_nil, List.mem_singleton] at hy
      subst hy; subst e
      exact h1.1 hx
  · rw [List.map_append, List.nodup_cons]
    refine ⟨?_, ?_⟩
    · intro hm
      rcases List.mem_append.1 hm with hm | hm
      · exact h2.1 hm
      · simp only [List.map_cons, List.map_nil, List.mem_singleton] at hm
        exact hr1 hm.symm
    · rw [List.nodup_append]
      refine ⟨h2.2, by simp, ?_⟩
      intro x hx y hy e
      simp only [List.map_cons, List.map_nil, List.mem_singleton] at hy
      subst hy; subst e
      obtain ⟨t, ht, e⟩ := List.mem_map.1 hx
      exact hr2 t ht e
  · intro t ht
    rcases List.mem_append.1 ht with ht | ht
    · exact h.bs.2.2 t ht
    · simp only [List.mem_singleton] at ht
      subst ht
      exact ⟨h.bs.1, hb2⟩

/-- the logs from place j on, at the end -/
structure LJ (w : World) (base : Nat) (T : List Tri) (j : Nat) (vk vw : Value) : Prop where
  each : ∀ i t, j ≤ i → T[i]? = some t → LogAt w base t.1 t.2.2 ∧ RLogAt w t.2.1 t.2.2 ∧ t.2.2.length = 32
  na : (T.map (·.1)).Nodup
  nb : (T.map (·.2.1)).Nodup
  k : Own w base 40 1 vk T.length (kptr T)
  w : Own w base 42 1 vw T.length (wptr T)
  bs : ∀ t ∈ T, base ≤ t.1 ∧ base ≤ t.2.1
theorem LI.last (h : LI w base ga gb sa sa T vk (kptr (T ++ [(ga, gb, sa)])) vw (wptr (T ++ [(ga, gb, sa)]))) : LJ w base (T ++ [(ga, gb, sa)]) 0 vk vw := by
  have h1 := List.nodup_cons.1 h.na
  have h2 := List.nodup_cons.1 h.nb
  have hlk : (kptr (T ++ [(ga, gb, sa)])).length = (T ++ [(ga, gb, sa)]).length := by simp [kptr]
  have hlw : (wptr (T ++ [(ga, gb, sa)])).length = (T ++ [(ga, gb, sa)]).length := by simp [wptr]
  refine ⟨?_, ?_, ?_, hlk ▸ h.k, hlw ▸ h.w, ?_⟩
  · intro i t _ ht
    rcases List.mem_append.1 (List.mem_of_getElem? ht) with ht | ht
    · exact h.each t ht
    · simp only [List.mem_singleton] at ht
      subst ht
      exact ⟨h.a, h.b, h.la⟩
  · rw [List.map_append, List.nodup_append]
    refine ⟨h1.2, by simp, ?_⟩
    intro x hx y hy e
    simp only [List.map_cons, List.map_nil, List.mem_singleton] at hy
    subst hy; subst e
    exact h1.1 hx
  · rw [List.map_append, List.nodup_append]
    refine ⟨h2.2, by simp, ?_⟩
    intro x hx y hy e
    simp only [List.map_cons, List.map_nil, List.mem_singleton] at hy
    subst hy; subst e
    exact h2.1 hx
  · intro t ht
    rcases List.mem_append.1 ht with ht | ht
    · exact h.bs.2.2 t ht
    · simp only [List.mem_singleton] at ht
      subst ht
      exact ⟨h.bs.1, h.bs.2.1⟩
theorem nodup_ne {α : Type} {l : List α} (h : l.Nodup) {i j : Nat} {x y : α} (hi : l[i]? = some x) (hj : l[j]? = some y) (hne : i ≠ j) : x ≠ y := by
  intro e
  subst e
  have hi' := (List.getElem?_eq_some_iff.1 hi)
  have hj' := (List.getElem?_eq_some_iff.1 hj)
  obtain ⟨a, ha⟩ := hi'
  obtain ⟨b, hb⟩ := hj'
  rcases Nat.lt_or_gt_of_ne hne with k | k
  · exact (List.pairwise_iff_getElem.1 h) i j a b k (ha.trans hb.symm)
  · exact (List.pairwise_iff_getElem.1 h) j i b a k (hb.trans ha.symm)
theorem LJ.step {j : Nat} (h : LJ w base T j vk vw) {t : Tri} (ht : T[j]? = some t) {w1 w2 : World} (h1 : Fr (One t.1) w w1) (h2 : Fr (One t.2.1) w1 w2) : LJ w2 base T (j + 1) vk vw := by
  obtain ⟨ha, hb, -⟩ := h.each j t (Nat.le_refl _) ht
  obtain ⟨v, hv⟩ := ha.at'
  have hb1 : RLogAt w1 t.2.1 t.2.2 := Has.keep hb h1 (Has.ne hb hv (by decide))
  have k1 := h.k.keep h1 (fun k hk (e : k = t.1) => h.k.ne hv (by decide) (e ▸ hk))
  have l1 := h.w.keep h1 (fun k hk (e : k = t.1) => h.w.ne hv (by decide) (e ▸ hk))
  refine ⟨?_, h.na, h.nb, k1.keep h2 (fun k hk (e : k = t.2.1) => k1.ne hb1 (by decide) (e ▸ hk)), l1.keep h2 (fun k hk (e : k = t.2.1) => l1.ne hb1 (by decide) (e ▸ hk)), h.bs⟩
  intro i u hi hu
  obtain ⟨c, d, e⟩ := h.each i u (by omega) hu
  have n1 : u.1 ≠ t.1 := nodup_ne h.na (i := i) (j := j) (by simp [List.getElem?_map, hu]) (by simp [List.getElem?_map, ht]) (by omega)
  have n2 : u.2.1 ≠ t.2.1 := nodup_ne h.nb (i := i) (j := j) (by simp [List.getElem?_map, hu]) (by simp [List.getElem?_map, ht]) (by omega)
  have c1 := c.other h1 n1 hv (by decide)
  have d1 : RLogAt w1 u.2.1 u.2.2 := Has.keep d h1 (Has.ne d hv (by decide))
  exact ⟨c1.other h2 (Has.ne c1.at'.choose_spec hb1 (by decide)) hb1 (by decide), Has.keep d1 h2 n2, e⟩
end Go.Proofs.Ytgkakddldobpkaa
