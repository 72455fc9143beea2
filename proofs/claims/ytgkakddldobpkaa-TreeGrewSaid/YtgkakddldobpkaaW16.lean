/- sponge.tag and sponge.Tag -/
import Derived.Test.YtgkakddldobpkaaW15
import Derived.Test.YtgkakddldobpkaaW12
namespace Go.Proofs.Ytgkakddldobpkaa
open Go.RowKit Go.Mv Mvp
attribute [local irreducible] permS permP toB turnsK squeeze permN permB spongeB

/-- the value reads as these bytes, from an old block -/
def PartIs (w : World) (v : Value) (l : List UInt8) : Prop := ∃ a n c, v = .slice a n c ∧ n ≤ c ∧ n ≤ 1000000 ∧ RdB w a n l ∧ Old w a
theorem PartIs.still {w w' : World} {v : Value} {l : List UInt8} (h : PartIs w v l) (hf : Fr Nob w w') : PartIs w' v l := by
  obtain ⟨a, n, c, h1, h2, h3, h4, h5⟩ := h
  exact ⟨a, n, c, h1, h2, h3, h4.still hf, h5.grow hf.size⟩
/-- a slice of slices of bytes -/
def PartsAt (w : World) (a : Option Addr) (ls : List (List UInt8)) : Prop := ∃ vs : List Value, Rd w a ls.length vs ∧ ∀ (i : Nat) (v : Value), vs[i]? = some v → ∃ l : List UInt8, ls[i]? = some l ∧ PartIs w v l
theorem PartsAt.get {w : World} {a : Option Addr} {ls : List (List UInt8)} (h : PartsAt w a ls) {j : Nat} (hj : j < ls.length) : ∃ b o v, a = some ⟨b, o, none⟩ ∧ w.cell? ⟨b, o + j, none⟩ = some v ∧ PartIs w v (ls.getD j []) := by
  obtain ⟨vs, hr, hv⟩ := h
  obtain ⟨b, o, rfl, hat⟩ := hr.at (by omega)
  have hl := hr.len
  obtain ⟨l, h1, h2⟩ := hv j (vs[j]'(by omega)) (List.getElem?_eq_getElem (by omega))
  refine ⟨b, o, vs[j]'(by omega), rfl, hat j _ (List.getElem?_eq_getElem (by omega)), ?_⟩
  rwa [List.getD_eq_getElem?_getD, h1]
theorem PartsAt.still {w w' : World} {a : Option Addr} {ls : List (List UInt8)} (h : PartsAt w a ls) (hf : Fr Nob w w') : PartsAt w' a ls := by
  obtain ⟨vs, hr, hv⟩ := h
  refine ⟨vs, hr.still hf, fun i v hi => ?_⟩
  obtain ⟨l, h1, h2⟩ := hv i v hi
  exact ⟨l, h1, h2.still hf⟩
/-- what a tag is made of -/
def tagText (s : List UInt8) (ls : List (List UInt8)) : List UInt8 := framesL (s :: ls)
def tagL (s : List UInt8) (ls : List (List UInt8)) : List UInt8 := spongeB (tagText s ls) 6 32

theorem z25 : ((zeros25, 0) : List UInt64 × Nat).1.length = 25 := rfl
attribute [local irreducible] feed frameL framesL abs zeros25
set_option maxHeartbeats 400000 in
set_option maxRecDepth 1000000 in
theorem tag_any (s : ByteArray) (a : Option Addr) (c : Nat) (ls : List (List UInt8)) (w : World) (hs : s.size ≤ 1000000) (hm : ls.length ≤ 1000000) (hb : PartsAt w a ls) :
    Calls Try.prog 53 #[.string s, .slice a ls.length c] w fun r w' => ∃ v, r = .returned v ∧ Own w' w.heap.size 5 1 v 32 (bs (tagL s.data.toList ls)) ∧ Fr Nob w w' := by
  go_enter Try.func53, Try.ntmps53
  go_wp2_with (with_reducible refine wl_stop (o := ⟨some 8, _, _, _, _, _⟩) ?_)
  refine wl_build0 rfl rfl _ built_abs ?_
  refine wl_box rfl rfl rfl (abs (zeros25, 0)) rfl ?_
  intro w1 hg1 hf1 hz1
  clear hz1
  have hst1 := z25
  have hst2 : ((zeros25, 0) : List UInt64 × Nat).2 < 136 := Nat.zero_lt_succ _
  obtain ⟨st0, hst0⟩ : ∃ st0 : List UInt64 × Nat, st0 = (zeros25, 0) := ⟨_, rfl⟩
  rw [← hst0] at hg1 hst1 hst2
  have HST0 := Lib.hid hst0; clear hst0
  generalize hgw : w.heap.size = g at *
  have HG := Lib.hid hgw; clear hgw
  go_wp2_with (with_reducible refine wl_stop (o := ⟨some 12, _, _, _, _, _⟩) ?_)
  refine wl_bytes rfl rfl Try.underlying9 Try.underlying22 Try.underlying5 rfl (by unfold maxLen; omega) w1.heap.size (Nat.le_refl _) ?_
  intro cap w2 hown2 hf2 hz2
  have hg2 := hg1.keep hf2 id
  have hfr2 := hf1.then hf2
  have hgl := hg1.lt
  obtain ⟨a2, c2, hv2, hc2, hrd2, -⟩ := hown2.form
  cases hv2
  rw [Nat.mul_one] at hrd2
  go_wp2_with fail
  have hoff0 : Off (One g) (some (⟨w1.heap.size, 0, none⟩ : Addr)) := fun x hx (e : x.block = g) => by
    cases hx
    exact absurd e (by show ¬ (w1.heap.size = g); omega)
  have hcall := frame_any g st0 (some ⟨w1.heap.size, 0, none⟩) s.size cap s.data.toList w2 hst1 hst2 hs hc2 hg2 hrd2 hoff0
  refine hcall.mono ?_
  rintro e w3 ⟨rfl, hg3, hf3⟩
  have hfr3 : Fr Nob w w3 := hfr2.new hf3 (by rw [HG.out]; exact Nat.le_refl _)
  clear hg1 hf1 hown2 hf2 hz2 hg2 hfr2 hrd2 hf3 hgl
  go_wp2_with fail
  go_loopw [16] (fun i wr => ∃ j : Nat, j ≤ ls.length ∧ i = .int .i64 (j : Int) ∧ Has wr g (abs (feed st0 (framesL (s.data.toList :: ls.take j)))) 95 ∧ Fr Nob w wr) (fun i _ => (ls.length - intOf i).toNat)
  case atStart => exact ⟨0, by omega, rfl, by rw [List.take_zero, framesL_one]; exact hg3, hfr3⟩
  case round =>
    obtain ⟨j, hj, rfl, hgj, hfj⟩ := hrel
    clear hg3 hfr3
    by_cases hlt : j < ls.length
    · have hltI : (j : Int) < (ls.length : Int) := by omega
      obtain ⟨b, o, v, rfl, hc, hp⟩ := (hb.still hfj).get hlt
      obtain ⟨b', o', v', hv', hc', hp'⟩ := hb.get hlt
      simp only [Option.some.injEq, Addr.mk.injEq] at hv'
      obtain ⟨rfl, rfl, -⟩ := hv'
      have hvv : v = v' := by
        have := hfj.cell id hc'
        rw [hc] at this; simpa using this
      subst hvv
      obtain ⟨ap, np, cp, rfl, hp1, hp2, hp3, hp4⟩ := hp'
      have hr3 := hp3.still hfj
      clear hp
      have hoff : Off (One g) ap := hp4.off (by rw [HG.out]; exact Nat.le_refl _)
      go_wp2_with fail
      have hSj : (feed st0 (framesL (s.data.toList :: ls.take j))).1.length = 25 := by rw [feed_len, hst1]
      have hkj := feed_lt (framesL (s.data.toList :: ls.take j)) st0 hst2
      refine (frame_any g (feed st0 (framesL (s.data.toList :: ls.take j))) ap np cp (ls.getD j []) wr hSj hkj hp2 hp1 hgj hr3 hoff).mono ?_
      rintro e w4 ⟨rfl, hg4, hf4⟩
      have hfr4 : Fr Nob w w4 := hfj.new hf4 (by rw [HG.out]; exact Nat.le_refl _)
      rw [← feed_append] at hg4
      have hfl : framesL (s.data.toList :: ls.take j) ++ frameL (ls.getD j []) = framesL (s.data.toList :: ls.take (j + 1)) := by
        rw [List.take_succ_eq_append_getElem hlt, ← List.cons_append, framesL_append, framesL_one, List.getD_eq_getElem?_getD, List.getElem?_eq_getElem hlt]; rfl
      rw [hfl] at hg4
      clear hSj hkj hr3 hgj hfj hf4 hfl
      go_wp2_with fail
      go_roundw
      case rel => exact ⟨j + 1, by omega, by go_num, hg4, hfr4⟩
      case measure => simp [intOf]; omega
    · have hge : ¬ ((j : Int) < (ls.length : Int)) := by omega
      have hjn : j = ls.length := by omega
      have hSj : (feed st0 (framesL (s.data.toList :: ls.take j))).1.length = 25 := by rw [feed_len, hst1]
      have hkj := feed_lt (framesL (s.data.toList :: ls.take j)) st0 hst2
      have hft : framesL (s.data.toList :: ls.take j) = tagText s.data.toList ls := by rw [hjn, List.take_length]; rfl
      rw [hft] at hgj hSj hkj
      generalize hst : feed st0 (tagText s.data.toList ls) = st at *
      have HST := Lib.hid hst; clear hst
      have HJN := Lib.hid hjn; clear hjn
      clear hft
      go_wp2_with fail
      refine (out_any g st.1 st.2 6 32 wr hSj hkj (by omega) hgj).mono ?_
      rintro e w4 ⟨v, rfl, hown, hf4⟩
      go_wp2_with fail
      go_ret
      refine ⟨v, rfl, ?_, hfj.new hf4 (by rw [HG.out]; exact Nat.le_refl _)⟩
      have := hown.mono (base' := g) (by have := hgj.lt; omega)
      rw [HG.out]
      unfold tagL spongeB
      rw [← HST0.out, HST.out]
      exact this

set_option maxHeartbeats 1000000 in
theorem Tag_any (s : ByteArray) (a : Option Addr) (c : Nat) (ls : List (List UInt8)) (w : World) (hs : s.size ≤ 1000000) (hm : ls.length ≤ 1000000) (hb : PartsAt w a ls) :
    Calls Try.prog 16 #[.string s, .slice a ls.length c] w fun r w' => ∃ v, r = .returned v ∧ Own w' w.heap.size 5 1 v 32 (bs (tagL s.data.toList ls)) ∧ Fr Nob w w' := by
  go_enter Try.func16, Try.ntmps16
  go_wp2_with fail
  refine (tag_any s a c ls w hs hm hb).mono ?_
  rintro e w4 ⟨v, rfl, hown, hf4⟩
  go_wp2_with fail
  go_ret
  exact ⟨v, rfl, hown, hf4⟩
end Go.Proofs.Ytgkakddldobpkaa
