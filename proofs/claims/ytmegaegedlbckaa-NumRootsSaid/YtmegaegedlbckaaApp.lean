/- append onto an owned slice, once more: what lay ahead of the new cells is kept, in the old block too. -/
import Derived.Test.YtmegaegedlbckaaOps
namespace Go.Mv
open Go.RowKit
variable {P : Program}

/-- all cells of old blocks are as they were, but those of v's block behind its n elements -/
def Kept (v : Value) (n sz : Nat) (w w' : World) : Prop :=
  ∀ b i, b < w.heap.size → (∀ o cap, v = .slice (some ⟨b, o, none⟩) n cap → i < o + n * sz) → w'.cell? ⟨b, i, none⟩ = w.cell? ⟨b, i, none⟩

theorem Kept.refl (v : Value) (n sz : Nat) (w : World) : Kept v n sz w w := fun _ _ _ _ => rfl
theorem Kept.ofFr {v : Value} {n sz : Nat} {w w' : World} (h : Fr Nob w w') : Kept v n sz w w' := fun b _ hb _ => World.cell?_of_block (a := ⟨b, _, none⟩) (h.block b hb id)
theorem Kept.rd {v : Value} {n sz : Nat} {w w' : World} (h : Kept v n sz w w') {a : Option Addr} {m : Nat} {L : List Value} (hr : Rd w a m L) (ha : ∀ b o o' cap, a = some ⟨b, o, none⟩ → v = .slice (some ⟨b, o', none⟩) n cap → o + m ≤ o' + n * sz) : Rd w' a m L := by
  refine ⟨hr.1, hr.2.imp id ?_⟩
  rintro ⟨b, o, rfl, hat⟩
  refine ⟨b, o, rfl, fun i u hu => ?_⟩
  have hc := hat i u hu
  have hi : i < m := by
    rcases Nat.lt_or_ge i m with k | k
    · exact k
    · rw [List.getElem?_eq_none (by rw [hr.1]; exact k)] at hu; cases hu
  rw [h b (o + i) (block_lt_of_cell hc) (fun o' cap hv => by have := ha b o o' cap rfl hv; omega)]
  exact hc

theorem run_append3 {w : World} (base : Nat) (t ty e : TypeId) (z : Value) (sz by_ : Nat) (ht : P.underlying t = some (.slice e)) (hi0 : (P.info? e).map (fun i => (i.zero, i.size, i.bytes)) = some (some z, sz, by_))
    (hzs : z.cells.size = sz) (hsz : 0 < sz)
    (v : Value) (n : Nat) (L : List Value) (hown : Own w base e sz v n L)
    (a : Option Addr) (m c : Nat) (news : List Value) (hnews : Rd w a (m * sz) news) (h1 : ∀ u ∈ news, u.oneCell' = true)
    (h63 : n + m ≤ maxLen) (hbytes : (n + m) * by_ ≤ 140737488355328) (hbase : base ≤ w.heap.size) :
    ∃ v' w', (Builtin.append_ #[t, t] ty #[v, .slice a m c]).run P w = .ok v' w' ∧ Own w' base e sz v' (n + m) (L ++ news) ∧ Fr (OwnB v) w w' ∧ Kept v n sz w w' ∧
      (((∃ x o cap, v = .slice (some ⟨x, o, none⟩) n cap ∧ v' = .slice (some ⟨x, o, none⟩) (n + m) cap) ∨ (m = 0 ∧ v' = v)) ∨ (v'.ownBlock = some w.heap.size ∧ Fr Nob w w')) := by
  obtain ⟨i, hi, hz, hsize, hby⟩ := info_parts hi0
  subst hsize
  subst hby
  rcases Nat.eq_zero_or_pos m with rfl | hm
  · obtain ⟨s, cap, rfl, hc, -, -⟩ := hown.form
    have hn : news = [] := List.eq_nil_of_length_eq_zero (by rw [hnews.len]; simp)
    subst hn
    exact ⟨_, w, run_append_zero t ty e i ht hi s n cap hc a c, by simpa using hown, Fr.refl _ _, Kept.refl _ _ _ _, .inl (.inr ⟨rfl, rfl⟩)⟩
  have hms : 0 < m * i.size := Nat.mul_pos hm hsz
  obtain ⟨b, o', rfl, hat⟩ := hnews.at hms
  have hlen : (L ++ news).length = (n + m) * i.size := by rw [List.length_append, hown.1, hnews.len, Nat.add_mul]
  have hsmall : n + m ≤ 9223372036854775807 := by simp only [maxLen] at h63; omega
  have grown : ∀ (old : Nat), old < n + m →
      Own (w.drew.alloc (.cells (L.toArray ++ news.toArray ++ Builtin.zeroCells z.cells (grownCap w (n + m) old e - (n + m))) e)) base e i.size
        (.slice (some ⟨w.heap.size, 0, none⟩) (n + m) (grownCap w (n + m) old e)) (n + m) (L ++ news) ∧
      Fr Nob w (w.drew.alloc (.cells (L.toArray ++ news.toArray ++ Builtin.zeroCells z.cells (grownCap w (n + m) old e - (n + m))) e)) := by
    intro old ho
    have hge := grownCap_ge w (n + m) old e
    have hcm : grownCap w (n + m) old e ≤ maxLen := grownCap_le_maxLen w (n + m) old e h63
    have hz' : (Builtin.zeroCells z.cells (grownCap w (n + m) old e - (n + m))).size = (grownCap w (n + m) old e - (n + m)) * i.size := by simp [size_zeroCells, hzs]
    have hmul : (n + m) * i.size + (grownCap w (n + m) old e - (n + m)) * i.size = grownCap w (n + m) old e * i.size := by rw [← Nat.add_mul]; congr 1; omega
    refine ⟨⟨hlen, .inr ⟨w.heap.size, 0, _, _, rfl, hbase, Has.new w.drew _ e, hge, hcm, ?_, ?_⟩⟩, ((Fr.refl _ w).drew).alloc _⟩
    · rw [List.length_append] at hlen
      simp only [Array.toList_append, List.length_append, Array.length_toList, hz', Nat.zero_add]
      omega
    · simp only [Array.toList_append, List.drop_zero]
      rw [← hlen]
      exact List.take_left
  rcases hown.2 with ⟨rfl, rfl⟩ | ⟨g, o, cap, B, rfl, hbg, hg, hnc, hcm, hl, htake⟩
  · have hx : L = [] := List.eq_nil_of_length_eq_zero (by simpa using hown.1)
    subst hx
    have hr := run_append_nil (P := P) w t ty e i z ht hi hz ⟨b, o', none⟩ m c news hnews.len hat.add hm (by omega) (by have hb := hbytes; simp only [Nat.zero_add] at hb; omega)
    have hgr := grown 0 (by omega)
    simp only [Nat.zero_add, List.nil_append, Array.empty_append] at hgr ⊢
    exact ⟨_, _, hr, hgr.1, hgr.2.mono (fun _ _ t => t.elim), Kept.ofFr hgr.2, .inr ⟨rfl, hgr.2⟩⟩
  · by_cases hroom : n + m ≤ cap
    · have hle : (n + m) * i.size ≤ cap * i.size := Nat.mul_le_mul_right _ hroom
      have hnl := hnews.len
      have hfit : o + n * i.size + news.length ≤ B.length := by rw [Nat.add_mul] at hle; omega
      obtain ⟨w', hr, hh, hf, hzz⟩ := run_append_room2 (P := P) t ty e i ht hi g o n cap B e hg _ m c news hnews h1 hroom hfit
      refine ⟨_, _, hr, ⟨hlen, .inr ⟨g, o, cap, _, rfl, hbg, hh, hroom, hcm, ?_, ?_⟩⟩, hf.mono (fun k _ t => by have e : k = g := t; subst e; rfl), ?_, .inl (.inl ⟨g, o, cap, rfl, rfl⟩)⟩
      · rw [splice_length _ _ _ hfit]; exact hl
      · have := splice_take B o (n * i.size) news hfit
        rw [htake] at this
        rw [← this, hnl, Nat.add_mul]
      · intro b' j hb' hj
        by_cases hbg' : b' = g
        · subst hbg'
          have hj' := hj o cap rfl
          rw [hg.get, hh.get]
          unfold splice
          rw [List.getElem?_append_left (by simp; omega), List.getElem?_take, if_pos hj']
        · exact World.cell?_of_block (a := ⟨b', j, none⟩) (hf.block b' hb' hbg')
    · have hle : n * i.size ≤ cap * i.size := Nat.mul_le_mul_right _ hnc
      have hrd : Rd w (some ⟨g, o, none⟩) (n * i.size) L := by rw [← htake]; exact Rd.ofHas hg o (by omega)
      have holds : ∀ j u, L[j]? = some u → w.cell? ((⟨g, o, none⟩ : Addr).add j) = some u := by
        rcases Nat.eq_zero_or_pos (n * i.size) with h0 | h0
        · have : L = [] := List.eq_nil_of_length_eq_zero (by rw [hown.1, h0])
          subst this; intro j u hu; simp at hu
        · obtain ⟨b2, o2, he, hc2⟩ := hrd.at h0
          simp only [Option.some.injEq, Addr.mk.injEq] at he
          obtain ⟨rfl, rfl, -⟩ := he
          exact hc2.add
      have hr := run_append_grow (P := P) w t ty e i z ht hi hz ⟨g, o, none⟩ n cap L hown.1 holds ⟨b, o', none⟩ m c news hnews.len hat.add (by omega) (by omega) (growslice_fits (by omega) hbytes)
      have hgr := grown cap (by omega)
      exact ⟨_, _, hr, hgr.1, hgr.2.mono (fun _ _ t => t.elim), Kept.ofFr hgr.2, .inr ⟨rfl, hgr.2⟩⟩

section
variable {w : World} {ops : Array Oper} {rest : List Oper} {o : Oper} {a : Act} {Q : Exit → Act → World → Prop}
/-- append(s, x...), x a slice; what stood ahead of the end is kept -/
theorem wl_append_k {s x : Operand} {t : TypeId} (hgd : o.guard = none) (ho : o.op = .call { callee := .builtin .append, args := #[s, x], argTypes := #[t, t] })
    {e : TypeId} {z : Value} {sz by_ : Nat} (ht : P.underlying t = some (.slice e)) (hi0 : (P.info? e).map (fun i => (i.zero, i.size, i.bytes)) = some (some z, sz, by_))
    (hzs : z.cells.size = sz) (hsz : 0 < sz)
    {v : Value} {n base : Nat} {L : List Value} (hown : Own w base e sz v n L) (hs : a.eval s = v)
    {xa : Option Addr} {m c : Nat} {news : List Value} (hx : a.eval x = .slice xa m c) (hnews : Rd w xa (m * sz) news) (h1 : ∀ u ∈ news, u.oneCell' = true)
    (h63 : n + m ≤ maxLen) (hbytes : (n + m) * by_ ≤ 140737488355328) (hbase : base ≤ w.heap.size)
    (h : ∀ v' w', Own w' base e sz v' (n + m) (L ++ news) → Fr (OwnB v) w w' → Kept v n sz w w' → (((∃ x o cap, v = .slice (some ⟨x, o, none⟩) n cap ∧ v' = .slice (some ⟨x, o, none⟩) (n + m) cap) ∨ (m = 0 ∧ v' = v)) ∨ (v'.ownBlock = some w.heap.size ∧ Fr Nob w w')) → wpList P ops Q rest (a.put o.dst v') w') : wpList P ops Q (o :: rest) a w := by
  refine wpList_plain hgd fun K hK => ?_
  obtain ⟨v', w', hr, h2, h3, h4, h5⟩ := run_append3 (P := P) base t o.type e z sz by_ ht hi0 hzs hsz v n L hown xa m c news hnews h1 h63 hbytes hbase
  unfold Oper.wp execOp
  simp only [ho, resolve, invoke, builtin, Sem.run_bind, Sem.run_pure, Result.andThen_ok, List.map_toArray, List.map_cons, List.map_nil, hs, hx, hr]
  exact hK _ _ (h v' w' h2 h3 h4 h5)
end
end Go.Mv
namespace Go.Mv
open Go.RowKit
section
variable {P : Program} {w : World} {ops : Array Oper} {o : Oper} {a : Act} {K : Act → World → Prop} {Q : Exit → Act → World → Prop} {E : Prop}
/-- append(s, x...) inside a region that draws: for the third argument of go_region_held3 -/
theorem step_append {s x : Operand} {t : TypeId} (hgd : o.guard = none) (ho : o.op = .call { callee := .builtin .append, args := #[s, x], argTypes := #[t, t] })
    {e : TypeId} {z : Value} {sz by_ : Nat} (ht : P.underlying t = some (.slice e)) (hi0 : (P.info? e).map (fun i => (i.zero, i.size, i.bytes)) = some (some z, sz, by_))
    (hzs : z.cells.size = sz) (hsz : 0 < sz)
    {v : Value} {n base : Nat} {L : List Value} (hown : Own w base e sz v n L) (hs : a.eval s = v)
    {xa : Option Addr} {m c : Nat} {news : List Value} (hx : a.eval x = .slice xa m c) (hnews : Rd w xa (m * sz) news) (h1 : ∀ u ∈ news, u.oneCell' = true)
    (h63 : n + m ≤ maxLen) (hbytes : (n + m) * by_ ≤ 140737488355328) (hbase : base ≤ w.heap.size)
    (h : ∀ v' w', Own w' base e sz v' (n + m) (L ++ news) → Fr (OwnB v) w w' → K (a.put o.dst v') w') :
    if Region.wanted o (yielded ops a.tmps) = true then Oper.wp P o a w K Q else E := by
  have hw : Region.wanted o (yielded ops a.tmps) = true := by simp [Region.wanted, hgd]
  rw [if_pos hw]
  obtain ⟨v', w', hr, h2, h3, h4⟩ := run_append2 (P := P) base t o.type e z sz by_ ht hi0 hzs hsz v n L hown xa m c news hnews h1 h63 hbytes hbase
  unfold Oper.wp execOp
  simp only [ho, resolve, invoke, builtin, Sem.run_bind, Sem.run_pure, Result.andThen_ok, List.map_toArray, List.map_cons, List.map_nil, hs, hx, hr]
  exact h v' w' h2 h3
end
end Go.Mv
